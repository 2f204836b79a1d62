/-
  Texts of this claim: Lb1, LbW, Lb2, Lb3, Pl8, ScSpec4, ScSpec5, Lc0, Lc1, RwPlain.
-/
import Derived.Test.YtckbgeedlobfaaaDoorY21
import Derived.Test.YtckbgeedlobfaaaDoorY11
import Derived.Test.YtckbgeedlobfaaaDoorY03
import Derived.Test.YtckbgeedlobfaaaDoorCards
import Derived.Test.YtckbgeedlobfaaaDoorTie
import Derived.WalkKit
import Derived.ProofKit
import Derived.OpenShut
import Derived.Deep.DeepHandedRow
import Derived.Lib.LaidTab
import Derived.Deep.DeepWitnessRowRef
import Derived.Test.YtckbgeedlobfaaaDoorY12
import Derived.Test.YtckbgeedlobfaaaDoorY13
set_option maxHeartbeats 1000000
set_option linter.unusedSimpArgs false
set_option linter.unusedVariables false
set_option maxRecDepth 100000
/-
  Chapter 04's laws: what Read tells, taken; the document's Same; alike; awake.
-/
namespace Go.Proofs.YtckbgeedlobfaaaDoor
open Go.Px Go.Px.Scan Go.Px.Spec Go.RowKit
attribute [-go_sem] Builtin.append_

/-- What is told, as data. -/
def AsG (s:ByteArray) (w:World) (v:Value) (w':World):Prop :=
 ∃vg,v = .tuple #[vg,mishV (refG s).2.1 (refG s).2.2]∧rGram.atN w' w'.heap.size vg (refG s).1∧Chg noB w w'
theorem RfAns.asG {s:ByteArray} {w w':World} {v:Value} (h:RfAns s w v w'):AsG s w v w':=by
 obtain ⟨vg,h1,h2⟩:=h;exact ⟨vg,h1,h2.read,h2.chg⟩
theorem Read_rf {s:ByteArray} {w:World} {B:Nat} (hs:s.size≤maxLen) (hO:Ord w B) (hB:B≤w.heap.size):Ct Tryd.prog spec_Read.id #[.string s] w (RfAns s w) :=
 (Read_ct hs hO hB).mono fun v w' h=>by
  obtain ⟨vg,h1,h2⟩:=h
  rw [readG_ref] at h1 h2
  exact ⟨vg,h1,h2⟩
theorem Read_as {s:ByteArray} {w:World} {B:Nat} (hs:s.size≤maxLen) (hO:Ord w B) (hB:B≤w.heap.size):Ct Tryd.prog spec_Read.id #[.string s] w (AsG s w):=(Read_rf hs hO hB).mono fun _ _ h=>h.asG

section
variable {X:Pan} {G:Nat→Prop} {W w:World} {L:List Ch}
def mB (c a:Int):List Value:=[.int .i64 c,.int .i64 a,.slice none 0 0]
/-- Two results, stored. -/
theorem take2 {A1 A2 A3 A4:Option Addr} {n1 n2 n3 n4 c1 c2 c3 c4:Nat} {x c a:Int} {K:Value→Value→World→Prop} (s:St G W w L)
  (hK:∀q1 q2 w',Chg noB w w'→St G W w' (L++[boxC q1 28 [.slice A1 n1 c1,.slice A2 n2 c2,.slice A3 n3 c3,.int .i64 x,.slice A4 n4 c4],boxC q2 31 (mB c a)])→K (.pointer (some ⟨q1,0,none⟩)) (.pointer (some ⟨q2,0,none⟩)) w') :
  RUN Tryd.prog X (Instr.extract (.tuple #[.agg #[.slice A1 n1 c1,.slice A2 n2 c2,.slice A3 n3 c3,.int .i64 x,.slice A4 n4 c4],mishV c a]) 0) w fun v3 w4 =>
  RUN Tryd.prog X (Instr.extract (.tuple #[.agg #[.slice A1 n1 c1,.slice A2 n2 c2,.slice A3 n3 c3,.int .i64 x,.slice A4 n4 c4],mishV c a]) 1) w4 fun v5 w6 =>
  RUN Tryd.prog X (Instr.alloc 28 true (.tuple #[])) w6 fun v7 w8 =>
  RUN Tryd.prog X (Instr.alloc 31 true (.tuple #[])) w8 fun v9 w10 =>
  RUNU Tryd.prog X (Instr.storeAt 28 v7 v3) w10 fun w11 =>
  RUNU Tryd.prog X (Instr.storeAt 31 v9 v5) w11 fun w12=>K v7 v9 w12:=by
 have s1:=(s.alloc zG.toArray 28).alloc zM.toArray 31
 have al1:(Instr.alloc 28 true (.tuple #[])).run Tryd.prog w = .ok (.pointer (some ⟨w.heap.size,0,none⟩)) (w.alloc (.cells zG.toArray 28)):=by simp -dsimp [go_sem,zG]
 have al2:∀w1:World,(Instr.alloc 31 true (.tuple #[])).run Tryd.prog w1 = .ok (.pointer (some ⟨w1.heap.size,0,none⟩)) (w1.alloc (.cells zM.toArray 31)):=fun w1=>by simp -dsimp [go_sem,zM]
 have hc0:Chg noB w ((w.alloc (.cells zG.toArray 28)).alloc (.cells zM.toArray 31)):=((Chg.refl noB w).alloc _).alloc _
 have t1:=(((St.refl noB w).alloc zG.toArray 28).alloc zM.toArray 31)
 rw [RUN_eq,xt0,RES_ok,RUN_eq,xt1,RES_ok,RUN_eq,al1,RES_ok,RUN_eq,al2,RES_ok]
 have e1:((w.alloc (.cells zG.toArray 28)).heap.size)=w.heap.size+1:=by simp
 rw [e1] at s1 t1 ⊢
 generalize (w.alloc (.cells zG.toArray 28)).alloc (.cells zM.toArray 31)=w1 at s1 t1 ⊢
 obtain ⟨w2,r2,s2⟩:=storeG (A1:=A1) (A2:=A2) (A3:=A3) (A4:=A4) (n1:=n1) (n2:=n2) (n3:=n3) (n4:=n4) (c1:=c1) (c2:=c2) (c3:=c3) (c4:=c4) (x:=x) (g:=zG) (q2:=w.heap.size) s1 (k:=L.length) (by simp) rfl
 obtain ⟨w2',r2',t2⟩:=storeG (A1:=A1) (A2:=A2) (A3:=A3) (A4:=A4) (n1:=n1) (n2:=n2) (n3:=n3) (n4:=n4) (c1:=c1) (c2:=c2) (c3:=c3) (c4:=c4) (x:=x) t1 (k:=0) rfl rfl
 obtain rfl:w2'=w2:=by rw [r2] at r2';injection r2' with _ h;exact h.symm
 obtain ⟨w3,r3,s3⟩:=storeM (c:=c) (a:=a) (g:=zM) (q3:=w.heap.size+1) s2 (k:=L.length+1) (by simp) rfl
 obtain ⟨w3',r3',t3⟩:=storeM (c:=c) (a:=a) t2 (k:=1) rfl rfl
 obtain rfl:w3'=w3:=by rw [r3] at r3';injection r3' with _ h;exact h.symm
 rw [RUNU_eq,r2,RESU_ok,RUNU_eq,r3,RESU_ok]
 refine hK _ _ _ t3.chg ?_
 have:((L++[boxC w.heap.size 28 zG.toArray.toList]++[boxC (w.heap.size+1) 31 zM.toArray.toList]).set L.length (boxC w.heap.size 28 [.slice A1 n1 c1,.slice A2 n2 c2,.slice A3 n3 c3,.int .i64 x,.slice A4 n4 c4])).set (L.length+1) (boxC (w.heap.size+1) 31 [.int .i64 c,.int .i64 a,.slice none 0 0])=L++[boxC w.heap.size 28 [.slice A1 n1 c1,.slice A2 n2 c2,.slice A3 n3 c3,.int .i64 x,.slice A4 n4 c4],boxC (w.heap.size+1) 31 (mB c a)]:=by
  rw [List.append_assoc,List.set_append_right _ _ (by omega),Nat.sub_self,List.set_append_right _ _ (by omega),show L.length+1-L.length=1 by omega];rfl
 rw [←this];exact s3
end
end Go.Proofs.YtckbgeedlobfaaaDoor

/-
  Reading the table scan.orders out of a row's condition; the rows of this seat in general.
-/
namespace Go.Proofs.YtckbgeedlobfaaaDoor
open Go.Px Go.Px.Scan Go.ChangeShapes Go.WideShapes Go.ChangeAt Go.RowKit

theorem own:ownKnob Tryd.prog.godebug=none:=by kernel_rfl
theorem gTab:Tryd.prog.globalNamed "presage/scan.orders" = some 0:=by kernel_rfl
theorem gTabType:(Tryd.prog.globals[0]?).map (·.type)=some 24:=by kernel_rfl
theorem cells9:Tryd.prog.cellsOf 9=1:=by kernel_rfl

theorem opens9:Opens Tryd.prog 9 rStr:=opens_str Tryd.underlying9 cells9 (by kernel_rfl)
theorem strs_inj:∀{a b:List ByteArray},(strs a:List (DataW Unit))=strs b→a=b:=by
 intro a
 induction a with
 | nil=>intro b h;cases b with
  | nil=>rfl
  | cons y b=>simp [strs] at h
 | cons x a ih=>intro b h;cases b with
  | nil=>simp [strs] at h
  | cons y b =>
   simp only [strs,List.map_cons,List.cons.injEq] at h
   obtain ⟨h1,h2⟩:=h
   have e:x=y:=by
    injection h1 with h1
    injection h1 with h1
    cases x;cases y
    simp at h1
    cases h1;rfl
   rw [e,ih h2]

theorem laid_strs:(Rows.laid_presage_scan_orders:DataW Unit) = .slice (strs ordersL) (strs []):=rfl

theorem ord_of_laid {W:World} (h:laidMetH Tryd.prog [("presage/scan.orders",Rows.laid_presage_scan_orders)] W):Ord W W.heap.size:=by
 have h':laidMet Tryd.prog [("presage/scan.orders",Rows.laid_presage_scan_orders)] W:=h
 obtain ⟨ps,⟨g,t,cs,fuel,p,q,hg,ht,hvar,hd,_,_⟩,_⟩:=h'
 obtain rfl:=Option.some.inj (gTab.symm.trans hg)
 obtain rfl:=Option.some.inj (gTabType.symm.trans ht)
 rcases open_strings Tryd.underlying24 Tryd.underlying9 cells9 hd with ⟨_,h0⟩ | ⟨a,len,cap,ss,hcs,_,hl,hm,hlen,hx,hcell,hsz⟩
 ·cases h0
 ·injection hx with hx _
  rw [laid_strs] at hx
  injection hx with h1 h2
  have e1:=strs_inj h1
  have e2:=strs_inj h2
  have hss:ss=ordersL:=by
   have:=List.take_append_drop len ss
   rw [←e1,←e2] at this
   rw [←this];simp
  subst hss
  have hl7:len=7:=by
   have h3:=congrArg List.length e1
   have h4:=congrArg List.length e2
   simp [ordersL] at h3 h4 hlen
   omega
  subst hl7
  have hc0:W.cell? ⟨0,0,none⟩=some (.slice (some a) 7 cap):=by
   rw [World.var?_cell hg hvar 0,←Array.getElem?_toList,hcs];rfl
  have key:∀i,i<7→W.cell? (a.add i)=some (.string (ordersL.getD i ByteArray.empty)):=fun i hi=>hcell i (by simpa [ordersL] using hi)
  have ha:a=⟨a.block,a.off,none⟩:=by
   have h0:=key 0 (by omega)
   simp only [Addr.add,if_pos] at h0
   unfold World.cell? at h0
   split at h0
   ·split at h0
    ·cases h0
    ·rename_i hsp
     cases a with
     | mk b o s=>cases s with
      | none=>rfl
      | some s=>simp at hsp
   ·cases h0
  have hlt:a.block<W.heap.size:=World.block_lt_of_cell? W _ (key 0 (by omega))
  refine ⟨Nat.lt_of_le_of_lt (Nat.zero_le _) hlt,some a,cap,hc0,?_⟩
  refine ⟨some a,cap,rfl,hl,hm,trivial,fun _=>⟨a.block,a.off,by rw [←ha],hlt,fun i x hi=>⟨[.string x],⟨rfl,?_⟩,fun j u hj=>?_⟩⟩⟩
  ·exact hsz x (List.mem_of_getElem? hi)
  ·have hi7:i<7:=by have:=(List.getElem?_eq_some_iff.1 hi).1;simpa [ordersL] using this
   have h1:=key i hi7
   rw [ha,Addr.add_lit] at h1
   have hj0:j=0:=by have:=(List.getElem?_eq_some_iff.1 hj).1;simp at this;omega
   subst hj0
   simp at hj
   subst hj
   simp only [List.getD_eq_getElem?_getD,hi,Option.getD_some] at h1
   simpa [rStr] using h1

/-- A world for the witness: the table lies behind everything. -/
noncomputable def laidWorld (os:Os):World :=
 let W:=World.holding Tryd.prog os ⟨#[],#[],[]⟩
 let W1:=W.alloc (.cells #[.string ⟨#[37,108,101,102,116]⟩,.string ⟨#[37,110,111,110,97,115,115,111,99]⟩,.string ⟨#[37,110,111,110,101]⟩,.string ⟨#[37,112,114,101,99]⟩,.string ⟨#[37,114,105,103,104,116]⟩,.string ⟨#[37,115,116,97,114,116]⟩,.string ⟨#[37,116,111,107,101,110]⟩] 9)
 {W1 with heap:=W1.heap.modify 0 fun
   | .cells _ t frozen => .cells #[.slice (some ⟨W.heap.size,0,none⟩) 7 7] t frozen
   | o=>o }

theorem laid_met (os:Os) (args:Array Value):laidMet Tryd.prog [("presage/scan.orders",Rows.laid_presage_scan_orders)] ((laidWorld os).forCall (fun _ _=>0) ⟨#[],args,[]⟩).memory :=
 laidMet_of_run' 8 (by kernel_rfl) (by kernel_rfl)
end Go.Proofs.YtckbgeedlobfaaaDoor

/-
  Chapter 04's laws: same, alike, awake.
-/
namespace Go.Proofs.YtckbgeedlobfaaaDoor
open Go.Px Go.Px.Scan Go.Px.Spec Go.RowKit
attribute [-go_sem] Builtin.append_ law04_same.b1_3 law04_alike.b1_4 law04_alike.b1_3 law04_alike.b1_2 law04_awake.b1_7 law04_awake.b1_6 law04_awake.b1_5 law04_awake.b1_3

end Go.Proofs.YtckbgeedlobfaaaDoor

/-
  Chapter 04's laws: awake.
-/
namespace Go.Proofs.YtckbgeedlobfaaaDoor
open Go.Px Go.Px.Scan Go.Px.Spec Go.RowKit
attribute [-go_sem] Builtin.append_ law04_awake.b1_7 law04_awake.b1_6 law04_awake.b1_1

def awkA:ByteArray:=⟨#[101,32,58,32,101,32,39,43,39,32,110,32,124,32,110,32,59]⟩
def awkB:ByteArray:=⟨#[115,32,58]⟩
theorem awkA_is:(refG awkA).2.1=0∧(refG awkA).1.prods.length=2∧(refG awkA).1.terms.length=3:=by decide +kernel
theorem awkB_is:(refG awkB).2.1=10∧(refG awkB).2.2=3:=by decide +kernel
theorem awkC_is:badS ⟨#[]⟩=0:=by decide +kernel
theorem awk_le:awkA.size≤maxLen∧awkB.size≤maxLen∧(⟨#[]⟩:ByteArray).size≤maxLen:=by decide

theorem awake_ct {w:World} {B:Nat} (hO:Ord w B) (hB:B≤w.heap.size):Ct Tryd.prog law04_awake.id #[] w fun v w'=>v = .bool true∧Chg noB w w':=by
 refine law04_awake.ct fun R hR=>?_
 unfold law04_awake.run law04_awake.b1
 refine CALL_of (Read_as (s:=awkA) awk_le.1 hO hB) ?_
 rintro _ w1 ⟨vg,rfl,hr,hc⟩
 obtain ⟨a1,a2,a3⟩:=awkA_is
 generalize refG awkA=x at *
 obtain ⟨A1,c1,A2,c2,A3,c3,A4,c4,rfl,_⟩:=(rGram_open hr).ex
 unfold law04_awake.b1_7
 refine take2 (L:=[]) (St.refl noB w1) fun q1 q2 w2 hc2 s2=>?_
 have hO2:=hO.chg (hc.trans hc2) hB fun _ _=>id
 have hB2:B≤w2.heap.size:=by have:=(hc.trans hc2).size;omega
 refine CALL_of (Read_as (s:=awkB) awk_le.2.1 hO2 hB2) ?_
 rintro _ w3 ⟨vh,rfl,hr3,hc3⟩
 obtain ⟨b1,b2⟩:=awkB_is
 generalize refG awkB=y at *
 obtain ⟨B1,d1,B2,d2,B3,d3,B4,d4,rfl,_⟩:=(rGram_open hr3).ex
 unfold law04_awake.b1_6
 refine take2 (s2.old hc3) fun q3 q4 w4 hc4 s4=>?_
 have hcc:Chg noB w w4:=hc.trans (hc2.trans (hc3.trans hc4))
 have k0:=(s4.box 0 rfl).1
 have k1:=(s4.box 1 rfl).1
 have k3:=(s4.box 3 rfl).1
 simp [boxAt,mB,a1,a2,a3,b1,b2] at k0 k1 k3
 simp -dsimp [go_sem,k0,k1,k3,a1,a2,a3,b1,b2]
 unfold law04_awake.b1_1
 refine CALL_of (Bad_ct awk_le.2.2 (hO.chg hcc hB fun _ _=>id) (by have:=hcc.size;omega)) ?_
 rintro _ w5 ⟨rfl,hc5⟩
 rw [awkC_is]
 simp -dsimp [go_sem]
 exact hR _ _ ⟨rfl,hcc.trans hc5⟩
end Go.Proofs.YtckbgeedlobfaaaDoor

/-
  What is told is plain.
-/
namespace Go.Px.Spec
open Go.Px Go.Px.Scan
theorem lvT_in {ts:List (ByteArray×Int)} {t:ByteArray} {x:Int} (h:lvT ts t=some x):(t,x)∈ts:=by
 unfold lvT at h
 cases e:ts[posN (ts.map (·.1)) t]? with
 | none=>rw [e] at h;cases h
 | some y =>
  rw [e] at h
  injection h with h
  have hin:t∈ts.map (·.1):=by
   refine Classical.byContradiction fun hn=>?_
   rw [posN_no hn,List.length_map,List.getElem?_eq_none (Nat.le_refl _)] at e;cases e
  have h2:=(posN_in hin).2
  rw [List.getElem?_map,e] at h2
  injection h2 with h2
  have hy:y=(t,x):=Prod.ext h2 h
  rw [←hy]
  exact List.mem_of_getElem? e
/-- Each level has a terminal. -/
theorem lv_used {hs:List (Nat×List ByteArray)} (hok:HOk hs) (hn:∀x∈hs,∀t∈x.2,t≠noT) (hne:∀x∈hs,x.2≠[]):∀i:Nat,i<(hTl hs).2.length→∃t,t≠noT∧lvT (hTl hs).1 t=some ((i:Int)+1):=by
 have key:∀n,∀hs:List (Nat×List ByteArray),hs.length=n→HOk hs→(∀x∈hs,∀t∈x.2,t≠noT)→(∀x∈hs,x.2≠[])→∀i:Nat,i<(hTl hs).2.length→∃t,t≠noT∧lvT (hTl hs).1 t=some ((i:Int)+1):=fun n=>by
  induction n with
  | zero=>intro hs hl _ _ _ i hi;rw [List.length_eq_zero_iff.1 hl] at hi;simp [hTl] at hi
  | succ n ih =>
   intro hs hl hok hn hne i hi
   rcases List.eq_nil_or_concat hs with e | ⟨a,⟨d,l⟩,e⟩
   ·rw [e] at hl;simp at hl
   ·have e':hs=a++[(d,l)]:=by simpa using e
    subst e'
    have hna:∀x∈a,∀t∈x.2,t≠noT:=fun x hx=>hn x (by simp [hx])
    obtain ⟨h1,h2,h3⟩:=hok.inv rfl
    rw [hTl_snoc] at hi ⊢
    unfold hstep at hi ⊢
    simp only at hi ⊢
    by_cases hd:0<d
    ·simp only [if_pos hd,List.length_append,List.length_singleton] at hi ⊢
     rcases Nat.lt_or_ge i (hTl a).2.length with hlt | hge
     ·obtain ⟨t,ht,hv⟩:=ih a (by simpa using hl) h1 hna (fun x hx=>hne x (by simp [hx])) i hlt
      refine ⟨t,ht,?_⟩
      rw [lvT_fold _ (by omega),if_neg,hv]
      intro hb
      refine (h3 hd).2 t (hasB_iff.1 hb) ?_
      rw [kn_hTl h1 hna ht,hv]
      have:(0:Int)<(i:Int)+1:=by omega
      simp [knOf,this]
     ·obtain ⟨t,l',hl'⟩:=List.exists_cons_of_ne_nil (hne (d,l) (by simp))
      have hl':l=t::l':=hl'
      refine ⟨t,hn (d,l) (by simp) t (by rw [hl'];simp),?_⟩
      rw [lvT_fold _ (by omega),if_pos (hasB_iff.2 (by rw [hl'];simp))]
      congr 1;omega
    ·simp only [if_neg hd] at hi ⊢
     obtain ⟨t,ht,hv⟩:=ih a (by simpa using hl) h1 hna (fun x hx=>hne x (by simp [hx])) i hi
     refine ⟨t,ht,?_⟩
     rw [lvT_fold0,hv]
     split <;> rfl
 exact key _ hs rfl hok hn hne
theorem lv_lo (hs:List (Nat×List ByteArray)):∀x∈(hTl hs).2,1≤x:=by
 have:∀(hs:List (Nat×List ByteArray)) (a:List (ByteArray×Int)×List Int),(∀x∈a.2,1≤x)→∀x∈(hs.foldl hstep a).2,1≤x:=fun hs=>by
  induction hs with
  | nil=>exact fun a h=>h
  | cons h hs ih =>
   intro a ha
   rw [List.foldl_cons]
   refine ih _ fun t ht=>?_
   unfold hstep at ht
   simp only at ht
   split at ht
   ·rcases List.mem_append.1 ht with h1 | h1
    ·exact ha t h1
    ·rw [List.mem_singleton.1 h1];omega
   ·exact ha t ht
 exact this hs _ (by simp)
/-- A name's place among names that are all unlike. -/
theorem pos_at {l:List ByteArray} (hd:l.Nodup) {i:Nat} (hi:i<l.length):posN l l[i]=i:=by
 have hm:l[i]∈l:=List.getElem_mem hi
 obtain ⟨h3,h4⟩:=posN_in hm
 rw [List.getElem?_eq_getElem h3] at h4
 injection h4 with h4
 exact (List.getElem_inj hd).1 h4
end Go.Px.Spec
namespace Go.Proofs.YtckbgeedlobfaaaDoor
open Go.Px Go.Px.Scan Go.Px.Spec Go.RowKit

theorem fin_lefts {m:Mc} (F:FinM m):leftsOf (gOf (numX (rxOf m))).prods=(dd m.lefts).map (nonX (numX (rxOf m)).ts.length (dd m.lefts)):=by
 have hinj:∀x y:ByteArray,x∈dd m.lefts→y∈dd m.lefts→nonX (numX (rxOf m)).ts.length (dd m.lefts) x=nonX (numX (rxOf m)).ts.length (dd m.lefts) y→x=y:=fun x y hx hy h=>by
  unfold nonX at h
  rw [if_pos (posN_in hx).1,if_pos (posN_in hy).1] at h
  exact (posN_inj hx (by omega)).symm
 have:=lefts_fold (f:=nonX (numX (rxOf m)).ts.length (dd m.lefts)) (g:=gPr (numX (rxOf m))) (P:=fun x=>x∈dd m.lefts) hinj m.rows [] (by simp) fun r hr=>⟨mem_dd.2 ((fin_lr F _).2 (List.mem_map.2 ⟨r,hr,rfl⟩)),rfl⟩
 rw [List.map_nil] at this
 unfold leftsOf
 rw [show (gOf (numX (rxOf m))).prods=m.rows.map (gPr (numX (rxOf m))) from rfl,this]
 show (dd (m.rows.map (·.left))).map _=_
 rw [F.lr]

theorem fin_valid {m:Mc} (hok:HOk m.heads) (F:FinM m) (hsm:¬((numX (rxOf m)).ts.length-1+(numX (rxOf m)).ls.length > 64∨(numX (rxOf m)).rows.length > 96)):ValidP (gOf (numX (rxOf m))):=by
 have hts:=fin_ts F
 have hlv:(numX (rxOf m)).lv=(hTl m.heads).2:=by rw [fin_lv F];exact (Mor.rows m.lefts m.rows (Sof m.heads)).lev
 have hnT:∀x∈m.heads,∀t∈x.2,t≠noT:=fun x hx t ht=>noT_size ((F.ht x hx).2 t ht).1
 obtain ⟨r0,e1,e2⟩:=(Mor.rows m.lefts m.rows (Sof m.heads)).terms
 have e3:(allS_ m).terms=(hTl m.heads).1++r0:=e1
 have hT:∀t∈(allS_ m).terms,TermP t.1:=fun t ht=>by
  refine foldN_term (fin_rowT F) (hTl_term fun x hx=>(F.ht x hx).2) t.1 (List.mem_map.2 ⟨t,?_,rfl⟩)
  rw [←fin_terms F];exact ht
 have hlev:∀t∈(allS_ m).terms,0≤t.2∧t.2≤((numX (rxOf m)).lv.length:Int):=fun x hx=>by
  rw [e3] at hx
  rcases List.mem_append.1 hx with hx | hx
  ·have h1:=(hTl_good m.heads).1 x hx
   have h2:=hTl_hi m.heads x hx
   rw [hlv];exact ⟨h1,h2⟩
  ·have:=e2 x hx;omega
 have hlevT:∀t∈(numX (rxOf m)).ts,0≤t.2∧t.2≤((numX (rxOf m)).lv.length:Int):=fun x hx=>by
  rw [hts] at hx
  rcases List.mem_cons.1 hx with rfl | hx
  ·simp
  ·exact hlev x hx
 have hlen:(numX (rxOf m)).ts.length=(allS_ m).terms.length+1:=by rw [hts,List.length_cons]
 have hls:(numX (rxOf m)).ls=dd m.lefts:=rfl
 have hdne:0<(dd m.lefts).length:=by
  obtain ⟨r,rs,e⟩:=List.exists_cons_of_ne_nil F.ne
  have:r.left∈dd m.lefts:=mem_dd.2 ((fin_lr F _).2 (List.mem_map.2 ⟨r,by rw [e];simp,rfl⟩))
  exact List.length_pos_of_mem this
 have hnX:∀s∈m.lefts,((numX (rxOf m)).ts.length:Int)≤nonX (numX (rxOf m)).ts.length (dd m.lefts) s∧nonX (numX (rxOf m)).ts.length (dd m.lefts) s<((numX (rxOf m)).ts.length:Int)+(dd m.lefts).length:=fun s hs=>by
  have:=(posN_in (mem_dd.2 hs)).1
  unfold nonX
  rw [if_pos this];omega
 have hrl:∀r∈m.rows,r.left∈m.lefts:=fun r hr=>(fin_lr F _).2 (List.mem_map.2 ⟨r,hr,rfl⟩)
 have hnd:((allS_ m).terms.map (·.1)).Nodup:=by
  rw [fin_terms F]
  have:∀(l:List RowS) (ts:List (ByteArray×Int)),(ts.map (·.1)).Nodup→((l.foldl (numF m.lefts) ts).map (·.1)).Nodup:=fun l=>by
   induction l with
   | nil=>exact fun ts h=>h
   | cons r l ih =>
    intro ts h
    rw [List.foldl_cons]
    refine ih _ ?_
    unfold numF
    rw [names_put]
    exact nodup_fold h
  exact this _ _ (hTl_good m.heads).2
 have hstart:((numX (rxOf m)).ts.length:Int)≤(gOf (numX (rxOf m))).start∧(gOf (numX (rxOf m))).start<((numX (rxOf m)).ts.length:Int)+(dd m.lefts).length:=by
  show _≤(if m.start=noT then _ else _)∧(if m.start=noT then _ else _)<_
  by_cases hs:m.start=noT
  ·rw [if_pos hs];omega
  ·rw [if_neg hs]
   exact hnX _ (by rcases F.st with h | h;exact absurd h hs;exact h)
 have hL:=fin_lefts F
 refine ⟨⟨?_,?_,?_,?_,?_,?_,?_,?_,?_,?_⟩,⟨?_,?_,?_,?_,?_,?_⟩,?_⟩
 ·show (numX (rxOf m)).ts.head?=_
  rw [hts];rfl
 ·exact hdne
 ·show (numX (rxOf m)).ts.length≤_
  omega
 ·show (dd m.lefts).length≤_
  rw [hls] at hsm;omega
 ·show (numX (rxOf m)).ts.length-1+((dd m.lefts).length-0)≤64
  rw [hls] at hsm;omega
 ·intro t ht
  have ht':t∈(allS_ m).terms:=by
   have:(gOf (numX (rxOf m))).terms.tail=(allS_ m).terms:=by show (numX (rxOf m)).ts.tail=_;rw [hts];rfl
   rw [this] at ht;exact ht
  exact ⟨hT t ht',(hlev t ht').1,(hlev t ht').2⟩
 ·intro i hi
  have hi':i<(hTl m.heads).2.length:=by rw [←hlv];exact hi
  have hx:(gOf (numX (rxOf m))).levels[i]∈(hTl m.heads).2:=by rw [←hlv];exact List.getElem_mem hi
  have h1:=lv_lo m.heads _ hx
  have h2:=lv_sides F.hd _ hx
  refine ⟨h1,h2.2,?_⟩
  obtain ⟨t,_,hv⟩:=lv_used hok hnT (fun x hx=>(F.ht x hx).1) i hi'
  refine ⟨(t,(i:Int)+1),?_,rfl⟩
  show _∈(numX (rxOf m)).ts.tail
  rw [hts,List.tail_cons,e3]
  exact List.mem_append_left _ (lvT_in hv)
 ·show ((numX (rxOf m)).ts.tail.map (·.1)).Nodup
  rw [hts,List.tail_cons];exact hnd
 ·show ((dd m.lefts).drop 0).Nodup
  rw [List.drop_zero];exact nodup_dd _
 ·intro s hs
  rw [List.drop_zero] at hs
  exact F.ln s (mem_dd.1 hs)
 ·show 0<(m.rows.map _).length
  rw [List.length_map];exact List.length_pos_iff.2 F.ne
 ·show (m.rows.map _).length≤_
  rw [List.length_map]
  have:(numX (rxOf m)).rows=m.rows:=rfl
  rw [this] at hsm;omega
 ·intro p hp
  rw [List.drop_zero] at hp
  obtain ⟨r,hr,rfl⟩:=List.mem_map.1 hp
  have hr:r∈m.rows:=hr
  have hb:=rlev_bounds (K:=((numX (rxOf m)).lv.length:Int)) (by omega) hlevT (numX (rxOf m)).ls r
  have hx:=hnX _ (hrl r hr)
  refine ⟨?_,hx.2,hb.1,hb.2,fun s hs=>?_⟩
  ·have:=hx.1
   show (_:Int)+0≤_
   rw [Int.add_zero];exact this
  ·obtain ⟨w,hw,rfl⟩:=List.mem_map.1 hs
   obtain ⟨hw1,hw2,_⟩:=fin_word F hr hw
   obtain ⟨⟨k,hri⟩,_⟩:=F.ri r hr
   have hwx:=hri.wx w hw
   have hTn:=noT_size (Tm.term ⟨w,hwx.1,hwx.2,rfl⟩:TermP w.2.1).1
   have hin:=(fin_has r hr).2.1 w hw
   have hlo:1≤symX (numX (rxOf m)).ts (dd m.lefts) w:=by
    unfold inW at hin
    unfold symX
    rw [nonX_dd]
    by_cases h:isNonX m.lefts w=true
    ·rw [if_pos h]
     rw [if_pos h] at hin
     have:=(hnX _ (((fin_nons F).2 _).1 hin)).1
     omega
    ·rw [if_neg h]
     rw [if_neg h] at hin
     rw [fin_posI F hTn hin,posH_mem hin];omega
   have hhi:symX (numX (rxOf m)).ts (dd m.lefts) w<((numX (rxOf m)).ts.length:Int)+(dd m.lefts).length:=by
    unfold symX
    split
    ·unfold nonX;split <;> omega
    ·have:=posI_lt (ts:=(numX (rxOf m)).ts) (t:=w.2.1);omega
   refine ⟨hlo,hhi,fun h=>?_⟩
   show (_:Int)+0≤_
   rw [Int.add_zero];exact h
 ·rw [List.drop_zero,hL,List.length_map];rfl
 ·have:=hstart.1
  show (_:Int)+0≤_
  rw [Int.add_zero];exact this
 ·exact hstart.2
 ·rw [hL,List.pairwise_iff_getElem]
  intro i j hi hj hij
  rw [List.length_map] at hi hj
  rw [List.getElem_map,List.getElem_map]
  unfold nonX
  rw [pos_at (nodup_dd _) hi,pos_at (nodup_dd _) hj,if_pos hi,if_pos hj]
  omega

/-- What is told, in brief. -/
theorem ref_plain (s:ByteArray):((refG s).2.1=0∧badS s = -1∧ValidP (refG s).1∧(refG s).2.2=0)∨((refG s).2.1=10∧badS s=(refG s).2.2∧0≤badS s∧(refG s).1=gz)∨((refG s).2.1=11∧badS s = -1∧(refG s).2.2=0∧(refG s).1=gz):=by
 unfold refG
 by_cases hb:0≤badS s
 ·rw [if_pos hb]
  exact .inr (.inl ⟨rfl,rfl,hb,rfl⟩)
 ·rw [if_neg hb]
  have h1:badS s = -1:=by rcases bad_lo s with h | h;exact h;exact absurd h hb
  obtain ⟨_,m,hg,h9⟩:=bad_acc (by omega:badS s<0)
  have mi:=goM_mi s hg
  rw [hg]
  simp only
  split
  ·exact .inr (.inr ⟨rfl,h1,rfl,rfl⟩)
  ·rename_i hsm
   exact .inl ⟨rfl,h1,fin_valid mi.hok (mi.fin h9) hsm,rfl⟩
end Go.Proofs.YtckbgeedlobfaaaDoor

/-
  What a bad place hangs on.
-/
namespace Go.Px.Scan
open Go.Px

end Go.Px.Scan

/-
  Words and bad places of texts that begin alike.
-/
namespace Go.Px.Scan
open Go.Px

theorem all_ge {s:ByteArray} (i:Nat):∀k,(allS s i).2=some k→i≤k∧k≤s.size:=by
 induction i using allS.induct s with
 | case1 i h k0 h1 =>
  intro k hk
  rw [all_bad h h1] at hk
  simp at hk
  have:=one_bad h h1
  have:=skip_ge s false i
  omega
 | case2 i h kd a b n h1 ih =>
  intro k hk
  rw [all_word h h1] at hk
  have:=ih k hk
  have:=one_word h h1
  have:=skip_ge s false i
  omega
 | case3 i h=>intro k hk;rw [all_end h] at hk;cases hk

end Go.Px.Scan

/-
  Where a bad place may be.
-/
namespace Go.Proofs.YtckbgeedlobfaaaDoor
open Go.Px Go.Px.Scan Go.Px.Spec Go.RowKit
theorem big_words {s:ByteArray} (h:8192<s.size):wordsS s=([],some 8192):=by unfold wordsS;rw [if_pos h]
theorem small_words {s:ByteArray} (h:¬8192<s.size):wordsS s=allS s 0:=by unfold wordsS;rw [if_neg h]
theorem all_lt (s:ByteArray) (i:Nat):∀x∈(allS s i).1,x.2.2<(s.size:Int):=by
 induction i using allS.induct s with
 | case1 i h k h1=>intro x hx;rw [all_bad h h1] at hx;simp at hx
 | case2 i h kd a b n h1 ih =>
  intro x hx
  rw [all_word h h1] at hx
  rcases List.mem_cons.1 hx with rfl | hx
  ·simpa using h
  ·exact ih x hx
 | case3 i h=>intro x hx;rw [all_end h] at hx;simp at hx
theorem bad_hi (s:ByteArray):badS s≤s.size∧badS s≤8192:=by
 by_cases hb:8192<s.size
 ·have:badS s=8192:=by unfold badS;rw [big_words hb];rfl
  omega
 ·have hw:=small_words hb
  unfold badS
  have hs:=goM_sub (wordsS s).1 m0
  cases hg:goM m0 (wordsS s).1 with
  | mk m l =>
   rw [hg] at hs
   cases l with
   | cons x l =>
    have:=hs x (by simp)
    rw [hw] at this
    have:=all_lt s 0 x this
    show x.2.2≤_∧x.2.2≤_
    omega
   | nil =>
    simp only
    cases hk:(wordsS s).2 with
    | some k =>
     rw [hw] at hk
     have:=all_ge 0 k hk
     simp only
     omega
    | none =>
     simp only
     split <;> omega
end Go.Proofs.YtckbgeedlobfaaaDoor

/-
  SpecPlain.
-/
namespace Go.Proofs.YtckbgeedlobfaaaDoor
open Go.Px Go.Px.Scan Go.Px.Spec Go.RowKit
attribute [-go_sem] Builtin.append_ law04_SpecPlain.b1_9 law04_SpecPlain.b1_10 law04_SpecPlain.b1_2 law04_SpecPlain.b1_1 law04_SpecPlain.b1_5 law04_SpecPlain.b1_8

theorem SpecPlain_ct {s:ByteArray} {w:World} {B:Nat} (hs:s.size≤maxLen) (hO:Ord w B) (hB:B≤w.heap.size) :
  Ct Tryd.prog law04_SpecPlain.id #[.string s] w fun v w'=>v = .bool true∧Chg noB w w':=by
 refine law04_SpecPlain.ct fun R hR=>?_
 unfold law04_SpecPlain.run law04_SpecPlain.b1
 refine CALL_of (awake_ct hO hB) ?_
 rintro _ w1 ⟨rfl,hc1⟩
 have ord:∀w',Chg noB w1 w'→Ord w' B∧B≤w'.heap.size:=fun w' hc=>⟨hO.chg (hc1.trans hc) hB fun _ _=>id,by have:=(hc1.trans hc).size;omega⟩
 have o1:=ord w1 (Chg.refl _ _)
 refine CALL_of (Read_as hs o1.1 o1.2) ?_
 rintro _ w2 ⟨vg,rfl,hr,hc2⟩
 have hp:=ref_plain s
 have hh:=bad_hi s
 generalize refG s=x at *
 obtain ⟨A1,c1,A2,c2,A3,c3,A4,c4,rfl,_⟩:=(rGram_open hr).ex
 unfold law04_SpecPlain.b1_10
 refine take2 (L:=[]) (St.refl noB w2) fun q1 q2 w3 hc3 s3=>?_
 have hc13:=hc2.trans hc3
 have o3:=ord w3 hc13
 refine CALL_of (Bad_ct hs o3.1 o3.2) ?_
 rintro _ w4 ⟨rfl,hc4⟩
 have s4:=s3.old hc4
 have hcc:Chg noB w w4:=hc1.trans (hc13.trans hc4)
 have k0:=(s4.box 0 rfl).1
 have k1:=(s4.box 1 rfl).1
 have l0:=loadG s4 (k:=0) rfl
 simp [boxAt,mB] at k0 k1
 have hm:=s4.rowSize
 unfold law04_SpecPlain.b1_9
 rcases hp with ⟨e1,e2,e3,e4⟩ | ⟨e1,e2,e3,e4⟩ | ⟨e1,e2,e3,e4⟩
 ·rw [e1,e4] at k1
  simp -dsimp [go_sem,k1,e2]
  unfold law04_SpecPlain.b1_2
  rw [RUN_eq,l0,RES_ok]
  refine CALL_of (Valid_ct (rGram_below hr ((hc3.trans hc4).below (Nat.le_refl _) fun _ _=>id)) (hc3.trans hc4).size) ?_
  rintro _ w5 ⟨rfl,hc5⟩
  have k5:=((s4.old hc5).box 1 rfl).1
  simp [boxAt,mB,e1,e4] at k5
  rw [validB_iff.2 e3]
  unfold law04_SpecPlain.b1_1
  simp -dsimp [go_sem,k5]
  exact hR _ _ ⟨rfl,hcc.trans hc5⟩
 ·have hz:x.1.prods.length=0:=by rw [e4];rfl
  rw [e1,←e2] at k1
  rw [hz] at k0
  have h1:(0:Int)≤badS s:=e3
  have h2:badS s≤s.size:=hh.1
  have h3:badS s≤8192:=hh.2
  simp -dsimp [go_sem,k1]
  unfold law04_SpecPlain.b1_5
  simp -dsimp [go_sem,k0,k1,h1,h2,h3]
  exact hR _ _ ⟨rfl,hcc⟩
 ·have hz:x.1.prods.length=0:=by rw [e4];rfl
  rw [e1,e3] at k1
  rw [hz] at k0
  simp -dsimp [go_sem,k1]
  unfold law04_SpecPlain.b1_8
  simp -dsimp [go_sem,k0,k1,e2]
  exact hR _ _ ⟨rfl,hcc⟩
end Go.Proofs.YtckbgeedlobfaaaDoor

/-
  The law SpecPlain returns true for every text, and nothing that was there before the call has turned: the tied card; its condition is that scan.orders holds its seven texts when the call begins, and no argument takes more than a machine has.
-/
namespace Go.Proofs.YtckbgeedlobfaaaDoor.specPlain
open Go.Px Go.ChangeShapes Go.WideShapes Go.ChangeAt Go.RowKit Go.Px.Scan

set_option maxRecDepth 100000 in
theorem contract (H:Type) (enc:TypeId×Value→H) (W:World) (base:Nat) (args:Array Value) (ds gs:List (DataW H)) (before:List MemPlace)
  (hval:∀(j:Nat) t v,Tryd.f10.params[j]?=some t→args[j]?=some v→Value.okWide Tryd.prog W .any base t v)
  (hW:DataW.Whole enc Tryd.prog Tryd.f10.params.toList Rows.specPlainSpec.vars false W args.toList ds gs before)
  (hwt:(DataW.weightsEach Tryd.prog (Tryd.f10.params.toList++(OpenSpec.ofChange Rows.specPlainSpec).bare.plain.varTypes Tryd.prog) (ds++gs)).all (·≤reachBytes)=true) (hL:laidMetH Tryd.prog Rows.specPlainRow.laid W) :
  Calls Tryd.prog 10 args W fun e W'=>∃v,e = .returned v∧Rows.specPlainSpec.post enc Tryd.prog Tryd.f10 false true false false W args v W':=by
 have hW':=hW
 obtain ⟨p,q,hA0,hV,rfl,hfz,hnd⟩:=hW
 have hA:DataW.TrodAll enc Tryd.prog W 0 (fun _=>true) true Tryd.f10.params.toList args.toList ds p:=hA0
 rw [Tryd.params10] at hA hval hwt
 obtain ⟨v0,vs0,d0,ds0,p0,q0,hargs0,rfl,rfl,h0,r0⟩:=trodAll_cons hA
 obtain ⟨rfl,rfl,rfl⟩:=trodAll_nil r0
 obtain rfl:args=#[v0]:=by cases args;simp_all
 obtain ⟨rfl,rfl⟩:=trodVars_none hV
 have hwt':(DataW.weightsEach Tryd.prog ([9]++[]) ([d0]++[])).all (·≤reachBytes)=true:=hwt
 simp only [List.append_nil,DataW.weightsEach,List.all_append,Bool.and_eq_true] at hwt'
 have ec0:v0.cells=#[v0]:=by obtain ⟨_,rfl⟩:=okWide_string Tryd.underlying9 (hval 0 9 v0 rfl rfl);rfl
 obtain ⟨a0,ha0,hf0,hb0⟩:=open_arg1 opens9 ec0 h0
 have hf0:=hf0 hwt'
 obtain ⟨rfl,hs0⟩:=str_at1 ha0
 have hO:=ord_of_laid hL
 refine (SpecPlain_ct hs0 hO (Nat.le_refl _)).2.mono fun e W' he=>?_
 cases e with
 | returned v =>
  obtain ⟨rfl,hb⟩:=he
  exact ⟨_,rfl,law_post (t:=4) (by kernel_rfl) (fun t ht=>by
   rw [Tryd.params10] at ht
   simp only [List.mem_cons,List.not_mem_nil,or_false] at ht
   rcases ht with rfl <;> exact ⟨by kernel_rfl,by decide +kernel⟩) rfl Tryd.underlying4 rfl hW' rfl rfl rfl (hb.below (Nat.le_refl _) fun _ _=>id)⟩
 | _=>exact he.elim

theorem reads (os:Os) {H:Type} (enc:TypeId×Value→H):∃places,DataW.whole enc Tryd.prog ((laidWorld os).forCall (fun _ _=>0) ⟨#[],#[.string ⟨#[]⟩],[]⟩).memory Tryd.f10.params.toList Rows.specPlainSpec.vars false #[.string ⟨#[]⟩].toList 8=some ([.lit (.string [])],[],places) :=
 ⟨[],by kernel_rfl⟩

set_option maxRecDepth 100000 in
theorem lifted (os:Os) (started:os.Started) (H:Type) (enc:TypeId×Value→H) (F:Stop.Interp) :
  ReturnsInHanded {} Tryd.checked os 10 .any ((OpenSpec.ofChange Rows.specPlainSpec).preRow enc Tryd.prog Tryd.f10 Rows.specPlainRow.domain false Rows.specPlainRow.laid) (((OpenSpec.ofChange Rows.specPlainSpec).at F).post enc Tryd.prog Tryd.f10 false true false false):=by
 obtain ⟨places,hx⟩:=reads os enc
 refine returnsInHanded_of_row (C:=Tryd.checked) (s:=OpenSpec.ofChange Rows.specPlainSpec) own started (by kernel_rfl) Tryd.func10
  (witness_row_atRef (enc:=enc) (C:=Tryd.checked) false (laidWorld os) #[.string ⟨#[]⟩] rfl (by kernel_rfl) (by kernel_rfl) (by kernel_rfl)
   (OpenSpec.preRow_of_cond 8 hx (by kernel_rfl) (fun k hk=>by cases hk) (by kernel_rfl) (laid_met os _))) ?_
 intro W base args ds gs before hval hW _ _ hwt hL _ _
 exact contract H enc W base args ds gs before hval hW hwt hL

theorem said:Rows.SpecPlainSaid :=
 OpenClaim.holds_of_cond 10 Tryd.f10 rfl rfl rfl rfl rfl rfl rfl ⟨rfl,rfl,rfl,rfl,rfl⟩ rfl rfl rfl rfl rfl (by kernel_rfl) Tryd.func10 (by kernel_rfl)
  (of_decide_eq_true (by kernel_rfl)) (by unfold Func.isWrapper;first | (rw [if_pos (by decide +kernel)];kernel_rfl) | (rw [if_neg (by decide +kernel)];exact ⟨rfl,rfl⟩))
  (fun os started H enc _ F=>by rw [OpenClaim.pre_eq_preRow];exact lifted os started H enc F)

theorem plain (f:FuncId) (fn:Func) (hf:Tryd.pinned.checked.prog.funcNamed "presage/presagelaw04.SpecPlain" = some f) (hfn:Tryd.pinned.checked.prog.funcs[f]?=some fn) :
  true=Tryd.pinned.checked.prog.looks []∧∀(j:Nat) t,fn.params[j]?=some t→Tryd.pinned.checked.prog.wantsStandIn t=false:=by
 obtain rfl:f=10:=Option.some.inj ((show Tryd.prog.funcNamed "presage/presagelaw04.SpecPlain" = some 10 by kernel_rfl).symm.trans hf) |>.symm
 obtain rfl:fn=Tryd.f10:=(Option.some.inj (Tryd.func10.symm.trans hfn)).symm
 refine ⟨by kernel_rfl,fun j t ht=>?_⟩
 rw [Tryd.params10] at ht
 have hm:=Array.mem_of_getElem? ht
 simp only [List.mem_toArray,List.mem_cons,List.not_mem_nil,or_false] at hm
 rcases hm with rfl
 all_goals first | exact (show Tryd.prog.wantsStandIn 9=false by kernel_rfl)

theorem card:Rows.SpecPlainCardSaid :=
 Claim7.holds_tied_plain_at .later [] _ _ _ _ said (fun _ h=>by cases h) (by kernel_rfl) (fun _ h=>by cases h) specPlain_row_tie rfl ⟨rfl,rfl⟩ (by kernel_rfl) rfl plain (by kernel_rfl)

end Go.Proofs.YtckbgeedlobfaaaDoor.specPlain

namespace Go.Proofs.YtckbgeedlobfaaaDoor
theorem SpecPlain_holds:Rows.SpecPlainCardSaid:=specPlain.card
end Go.Proofs.YtckbgeedlobfaaaDoor
#print axioms Go.Proofs.YtckbgeedlobfaaaDoor.SpecPlain_holds
