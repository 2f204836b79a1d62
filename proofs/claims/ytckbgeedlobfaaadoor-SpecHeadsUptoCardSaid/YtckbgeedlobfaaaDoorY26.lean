/-
  Texts of this claim: Lb1, LbW, ScSpec4, ScSpec5, ScSpec6, Ld0, Pl8, Lc0, Le0, Lf1, Lb2, Lb3.
-/
import Derived.Test.YtckbgeedlobfaaaDoorY25
import Derived.Test.YtckbgeedlobfaaaDoorY15
import Derived.Test.YtckbgeedlobfaaaDoorY03
import Derived.Test.YtckbgeedlobfaaaDoorCards
import Derived.Test.YtckbgeedlobfaaaDoorTie
import Derived.WalkKit
import Derived.ProofKit
import Derived.OpenShut
import Derived.Deep.DeepHandedRow
import Derived.Lib.LaidTab
import Derived.Deep.DeepWitnessRowRef
import Derived.Test.YtckbgeedlobfaaaDoorY16
set_option maxHeartbeats 1000000
set_option linter.unusedSimpArgs false
set_option linter.unusedVariables false
set_option maxRecDepth 100000
/-
  Chapter 04's laws: what Read tells, taken; the document's Same; alike; awake.
-/
namespace Go.Proofs.YtckbgeedlobfaaaDoor
open Go.Px Go.Px.Scan Go.Px.Spec Go.RowKit
attribute [-go_sem] Builtin.append_

/-- What is told, as data. -/
def AsG (s:ByteArray) (w:World) (v:Value) (w':World):Prop :=
 ∃vg,v = .tuple #[vg,mishV (refG s).2.1 (refG s).2.2]∧rGram.atN w' w'.heap.size vg (refG s).1∧Chg noB w w'
theorem RfAns.asG {s:ByteArray} {w w':World} {v:Value} (h:RfAns s w v w'):AsG s w v w':=by
 obtain ⟨vg,h1,h2⟩:=h;exact ⟨vg,h1,h2.read,h2.chg⟩
theorem Read_rf {s:ByteArray} {w:World} {B:Nat} (hs:s.size≤maxLen) (hO:Ord w B) (hB:B≤w.heap.size):Ct Tryd.prog spec_Read.id #[.string s] w (RfAns s w) :=
 (Read_ct hs hO hB).mono fun v w' h=>by
  obtain ⟨vg,h1,h2⟩:=h
  rw [readG_ref] at h1 h2
  exact ⟨vg,h1,h2⟩
theorem Read_as {s:ByteArray} {w:World} {B:Nat} (hs:s.size≤maxLen) (hO:Ord w B) (hB:B≤w.heap.size):Ct Tryd.prog spec_Read.id #[.string s] w (AsG s w):=(Read_rf hs hO hB).mono fun _ _ h=>h.asG

section
variable {X:Pan} {G:Nat→Prop} {W w:World} {L:List Ch}
def mB (c a:Int):List Value:=[.int .i64 c,.int .i64 a,.slice none 0 0]
/-- Two results, stored. -/
theorem take2 {A1 A2 A3 A4:Option Addr} {n1 n2 n3 n4 c1 c2 c3 c4:Nat} {x c a:Int} {K:Value→Value→World→Prop} (s:St G W w L)
  (hK:∀q1 q2 w',Chg noB w w'→St G W w' (L++[boxC q1 28 [.slice A1 n1 c1,.slice A2 n2 c2,.slice A3 n3 c3,.int .i64 x,.slice A4 n4 c4],boxC q2 31 (mB c a)])→K (.pointer (some ⟨q1,0,none⟩)) (.pointer (some ⟨q2,0,none⟩)) w') :
  RUN Tryd.prog X (Instr.extract (.tuple #[.agg #[.slice A1 n1 c1,.slice A2 n2 c2,.slice A3 n3 c3,.int .i64 x,.slice A4 n4 c4],mishV c a]) 0) w fun v3 w4 =>
  RUN Tryd.prog X (Instr.extract (.tuple #[.agg #[.slice A1 n1 c1,.slice A2 n2 c2,.slice A3 n3 c3,.int .i64 x,.slice A4 n4 c4],mishV c a]) 1) w4 fun v5 w6 =>
  RUN Tryd.prog X (Instr.alloc 28 true (.tuple #[])) w6 fun v7 w8 =>
  RUN Tryd.prog X (Instr.alloc 31 true (.tuple #[])) w8 fun v9 w10 =>
  RUNU Tryd.prog X (Instr.storeAt 28 v7 v3) w10 fun w11 =>
  RUNU Tryd.prog X (Instr.storeAt 31 v9 v5) w11 fun w12=>K v7 v9 w12:=by
 have s1:=(s.alloc zG.toArray 28).alloc zM.toArray 31
 have al1:(Instr.alloc 28 true (.tuple #[])).run Tryd.prog w = .ok (.pointer (some ⟨w.heap.size,0,none⟩)) (w.alloc (.cells zG.toArray 28)):=by simp -dsimp [go_sem,zG]
 have al2:∀w1:World,(Instr.alloc 31 true (.tuple #[])).run Tryd.prog w1 = .ok (.pointer (some ⟨w1.heap.size,0,none⟩)) (w1.alloc (.cells zM.toArray 31)):=fun w1=>by simp -dsimp [go_sem,zM]
 have hc0:Chg noB w ((w.alloc (.cells zG.toArray 28)).alloc (.cells zM.toArray 31)):=((Chg.refl noB w).alloc _).alloc _
 have t1:=(((St.refl noB w).alloc zG.toArray 28).alloc zM.toArray 31)
 rw [RUN_eq,xt0,RES_ok,RUN_eq,xt1,RES_ok,RUN_eq,al1,RES_ok,RUN_eq,al2,RES_ok]
 have e1:((w.alloc (.cells zG.toArray 28)).heap.size)=w.heap.size+1:=by simp
 rw [e1] at s1 t1 ⊢
 generalize (w.alloc (.cells zG.toArray 28)).alloc (.cells zM.toArray 31)=w1 at s1 t1 ⊢
 obtain ⟨w2,r2,s2⟩:=storeG (A1:=A1) (A2:=A2) (A3:=A3) (A4:=A4) (n1:=n1) (n2:=n2) (n3:=n3) (n4:=n4) (c1:=c1) (c2:=c2) (c3:=c3) (c4:=c4) (x:=x) (g:=zG) (q2:=w.heap.size) s1 (k:=L.length) (by simp) rfl
 obtain ⟨w2',r2',t2⟩:=storeG (A1:=A1) (A2:=A2) (A3:=A3) (A4:=A4) (n1:=n1) (n2:=n2) (n3:=n3) (n4:=n4) (c1:=c1) (c2:=c2) (c3:=c3) (c4:=c4) (x:=x) t1 (k:=0) rfl rfl
 obtain rfl:w2'=w2:=by rw [r2] at r2';injection r2' with _ h;exact h.symm
 obtain ⟨w3,r3,s3⟩:=storeM (c:=c) (a:=a) (g:=zM) (q3:=w.heap.size+1) s2 (k:=L.length+1) (by simp) rfl
 obtain ⟨w3',r3',t3⟩:=storeM (c:=c) (a:=a) t2 (k:=1) rfl rfl
 obtain rfl:w3'=w3:=by rw [r3] at r3';injection r3' with _ h;exact h.symm
 rw [RUNU_eq,r2,RESU_ok,RUNU_eq,r3,RESU_ok]
 refine hK _ _ _ t3.chg ?_
 have:((L++[boxC w.heap.size 28 zG.toArray.toList]++[boxC (w.heap.size+1) 31 zM.toArray.toList]).set L.length (boxC w.heap.size 28 [.slice A1 n1 c1,.slice A2 n2 c2,.slice A3 n3 c3,.int .i64 x,.slice A4 n4 c4])).set (L.length+1) (boxC (w.heap.size+1) 31 [.int .i64 c,.int .i64 a,.slice none 0 0])=L++[boxC w.heap.size 28 [.slice A1 n1 c1,.slice A2 n2 c2,.slice A3 n3 c3,.int .i64 x,.slice A4 n4 c4],boxC (w.heap.size+1) 31 (mB c a)]:=by
  rw [List.append_assoc,List.set_append_right _ _ (by omega),Nat.sub_self,List.set_append_right _ _ (by omega),show L.length+1-L.length=1 by omega];rfl
 rw [←this];exact s3
end
end Go.Proofs.YtckbgeedlobfaaaDoor

/-
  Reading the table scan.orders out of a row's condition; the rows of this seat in general.
-/
namespace Go.Proofs.YtckbgeedlobfaaaDoor
open Go.Px Go.Px.Scan Go.ChangeShapes Go.WideShapes Go.ChangeAt Go.RowKit

theorem own:ownKnob Tryd.prog.godebug=none:=by kernel_rfl
theorem gTab:Tryd.prog.globalNamed "presage/scan.orders" = some 0:=by kernel_rfl
theorem gTabType:(Tryd.prog.globals[0]?).map (·.type)=some 24:=by kernel_rfl
theorem cells9:Tryd.prog.cellsOf 9=1:=by kernel_rfl

theorem opens9:Opens Tryd.prog 9 rStr:=opens_str Tryd.underlying9 cells9 (by kernel_rfl)
theorem strs_inj:∀{a b:List ByteArray},(strs a:List (DataW Unit))=strs b→a=b:=by
 intro a
 induction a with
 | nil=>intro b h;cases b with
  | nil=>rfl
  | cons y b=>simp [strs] at h
 | cons x a ih=>intro b h;cases b with
  | nil=>simp [strs] at h
  | cons y b =>
   simp only [strs,List.map_cons,List.cons.injEq] at h
   obtain ⟨h1,h2⟩:=h
   have e:x=y:=by
    injection h1 with h1
    injection h1 with h1
    cases x;cases y
    simp at h1
    cases h1;rfl
   rw [e,ih h2]

theorem laid_strs:(Rows.laid_presage_scan_orders:DataW Unit) = .slice (strs ordersL) (strs []):=rfl

theorem ord_of_laid {W:World} (h:laidMetH Tryd.prog [("presage/scan.orders",Rows.laid_presage_scan_orders)] W):Ord W W.heap.size:=by
 have h':laidMet Tryd.prog [("presage/scan.orders",Rows.laid_presage_scan_orders)] W:=h
 obtain ⟨ps,⟨g,t,cs,fuel,p,q,hg,ht,hvar,hd,_,_⟩,_⟩:=h'
 obtain rfl:=Option.some.inj (gTab.symm.trans hg)
 obtain rfl:=Option.some.inj (gTabType.symm.trans ht)
 rcases open_strings Tryd.underlying24 Tryd.underlying9 cells9 hd with ⟨_,h0⟩ | ⟨a,len,cap,ss,hcs,_,hl,hm,hlen,hx,hcell,hsz⟩
 ·cases h0
 ·injection hx with hx _
  rw [laid_strs] at hx
  injection hx with h1 h2
  have e1:=strs_inj h1
  have e2:=strs_inj h2
  have hss:ss=ordersL:=by
   have:=List.take_append_drop len ss
   rw [←e1,←e2] at this
   rw [←this];simp
  subst hss
  have hl7:len=7:=by
   have h3:=congrArg List.length e1
   have h4:=congrArg List.length e2
   simp [ordersL] at h3 h4 hlen
   omega
  subst hl7
  have hc0:W.cell? ⟨0,0,none⟩=some (.slice (some a) 7 cap):=by
   rw [World.var?_cell hg hvar 0,←Array.getElem?_toList,hcs];rfl
  have key:∀i,i<7→W.cell? (a.add i)=some (.string (ordersL.getD i ByteArray.empty)):=fun i hi=>hcell i (by simpa [ordersL] using hi)
  have ha:a=⟨a.block,a.off,none⟩:=by
   have h0:=key 0 (by omega)
   simp only [Addr.add,if_pos] at h0
   unfold World.cell? at h0
   split at h0
   ·split at h0
    ·cases h0
    ·rename_i hsp
     cases a with
     | mk b o s=>cases s with
      | none=>rfl
      | some s=>simp at hsp
   ·cases h0
  have hlt:a.block<W.heap.size:=World.block_lt_of_cell? W _ (key 0 (by omega))
  refine ⟨Nat.lt_of_le_of_lt (Nat.zero_le _) hlt,some a,cap,hc0,?_⟩
  refine ⟨some a,cap,rfl,hl,hm,trivial,fun _=>⟨a.block,a.off,by rw [←ha],hlt,fun i x hi=>⟨[.string x],⟨rfl,?_⟩,fun j u hj=>?_⟩⟩⟩
  ·exact hsz x (List.mem_of_getElem? hi)
  ·have hi7:i<7:=by have:=(List.getElem?_eq_some_iff.1 hi).1;simpa [ordersL] using this
   have h1:=key i hi7
   rw [ha,Addr.add_lit] at h1
   have hj0:j=0:=by have:=(List.getElem?_eq_some_iff.1 hj).1;simp at this;omega
   subst hj0
   simp at hj
   subst hj
   simp only [List.getD_eq_getElem?_getD,hi,Option.getD_some] at h1
   simpa [rStr] using h1

/-- A world for the witness: the table lies behind everything. -/
noncomputable def laidWorld (os:Os):World :=
 let W:=World.holding Tryd.prog os ⟨#[],#[],[]⟩
 let W1:=W.alloc (.cells #[.string ⟨#[37,108,101,102,116]⟩,.string ⟨#[37,110,111,110,97,115,115,111,99]⟩,.string ⟨#[37,110,111,110,101]⟩,.string ⟨#[37,112,114,101,99]⟩,.string ⟨#[37,114,105,103,104,116]⟩,.string ⟨#[37,115,116,97,114,116]⟩,.string ⟨#[37,116,111,107,101,110]⟩] 9)
 {W1 with heap:=W1.heap.modify 0 fun
   | .cells _ t frozen => .cells #[.slice (some ⟨W.heap.size,0,none⟩) 7 7] t frozen
   | o=>o }

theorem laid_met (os:Os) (args:Array Value):laidMet Tryd.prog [("presage/scan.orders",Rows.laid_presage_scan_orders)] ((laidWorld os).forCall (fun _ _=>0) ⟨#[],args,[]⟩).memory :=
 laidMet_of_run' 8 (by kernel_rfl) (by kernel_rfl)
end Go.Proofs.YtckbgeedlobfaaaDoor

/-
  What a bad place hangs on.
-/
namespace Go.Px.Scan
open Go.Px

end Go.Px.Scan

/-
  Words and bad places of texts that begin alike.
-/
namespace Go.Px.Scan
open Go.Px

theorem letter_of_inner {c:Nat} (h:innerN c=false):letterN c=false:=by
 simp [innerN] at h;exact h.1

end Go.Px.Scan

/-
  Words with blanks between them.
-/
namespace Go.Px.Scan
open Go.Px

theorem run_shift (p:Nat→Bool) {s t:ByteArray} (d:Nat):∀(n i:Nat),(∀j,i≤j→j<runS p s i n→bt t (d+j)=bt s j)→d+runS p s i n≤t.size →
  (d+runS p s i n<t.size→(runS p s i n<s.size∧bt t (d+runS p s i n)=bt s (runS p s i n))∨p (bt t (d+runS p s i n))=false∨runS p s i n=i+n)→runS p t (d+i) n=d+runS p s i n
 | 0,i,_,_,_=>rfl
 | n+1,i,ha,h1,h2=>by
  by_cases hc:(i<s.size && p (bt s i))=true
  ·have e:runS p s i (n+1)=runS p s (i+1) n:=by conv=>lhs;unfold runS;rw [if_pos hc]
   rw [e] at ha h1 h2 ⊢
   have hg:=run_ge p s n (i+1)
   have hti:=ha i (by omega) (by omega)
   conv=>lhs;unfold runS
   simp at hc
   rw [if_pos (by simp [hti,hc.2];omega)]
   exact run_shift p d n (i+1) (fun j hj=>ha j (by omega)) h1 (fun h=>by
    rcases h2 h with h3 | h3 | h3
    ·exact Or.inl h3
    ·exact Or.inr (Or.inl h3)
    ·exact Or.inr (Or.inr (by omega)))
  ·have e:runS p s i (n+1)=i:=by conv=>lhs;unfold runS;rw [if_neg hc]
   rw [e] at ha h1 h2 ⊢
   unfold runS
   rw [if_neg]
   intro hn
   simp at hn hc
   rcases h2 hn.1 with h3 | h3 | h3
   ·rw [h3.2] at hn;exact absurd hn.2 (by simp [hc h3.1])
   ·rw [h3] at hn;simp at hn
   ·omega

theorem extract_shift {s t:ByteArray} (d:Nat) {a e:Nat} (hs:e≤s.size) (ht:d+e≤t.size) (h:∀j,a≤j→j<e→bt t (d+j)=bt s j):t.extract (d+a) (d+e)=s.extract a e:=by
 apply bs_ext
 have h1:=Lib.extract_toList t (d+a) (d+e)
 have h2:=Lib.extract_toList s a e
 rw [ByteArray.toList_eq] at h1 h2
 rw [h1,h2,show d+e-(d+a)=e-a by omega]
 apply List.ext_getElem?
 intro i
 simp only [List.getElem?_take,List.getElem?_drop]
 split
 ·rename_i hi
  have hj:=h (a+i) (by omega) (by omega)
  obtain ⟨c,hc,ec⟩:=list_bt (s:=s) (i:=a+i) (by omega)
  obtain ⟨x,hx,ex⟩:=list_bt (s:=t) (i:=d+a+i) (by omega)
  rw [hc,hx]
  congr 1
  apply UInt8.toNat_inj.1
  rw [show d+a+i=d+(a+i) by omega] at ex
  omega
 ·rfl

theorem ord_shift {s t:ByteArray} (d:Nat) (a k:Nat):k≤s.size→(∀j,a≤j→j<(ordS s a k).1→bt t (d+j)=bt s j)→d+(ordS s a k).1≤t.size→a≤k→(ordS s a k).2=true →
  (d+(ordS s a k).1<t.size→((ordS s a k).1<s.size∧bt t (d+(ordS s a k).1)=bt s (ordS s a k).1)∨letterN (bt t (d+(ordS s a k).1))=false)→ordS t (d+a) (d+k)=(d+(ordS s a k).1,true):=by
 induction k using ordS.induct s a with
 | case1 k h h1 ih =>
  intro hk ha hle hak ho h2
  have e:ordS s a k=ordS s a (k+1):=by conv=>lhs;unfold ordS;rw [if_pos h,if_pos h1]
  rw [e] at ha hle h2 ho ⊢
  have hg:=ord_ge s a (k+1)
  conv=>lhs;unfold ordS
  rw [if_pos ⟨by omega,by rw [ha k hak (by omega)];exact h.2⟩,if_pos (by
   rw [show d+k+1=d+(k+1) by omega,extract_shift (s:=s) d (by omega) (by omega) (fun j hj hj'=>ha j hj (by omega))];exact h1)]
  exact ih (by omega) ha hle (by omega) ho h2
 | case2 k h h1 =>
  intro hk ha hle hak ho h2
  have e:ordS s a k=(k,false):=by conv=>lhs;unfold ordS;rw [if_pos h,if_neg h1]
  rw [e] at ho;cases ho
 | case3 k h =>
  intro hk ha hle hak ho h2
  have e:ordS s a k=(k,true):=by conv=>lhs;unfold ordS;rw [if_neg h]
  rw [e] at ha hle h2 ⊢
  unfold ordS
  rw [if_neg]
  rintro ⟨h4,h5⟩
  rcases h2 h4 with h6 | h6
  ·simp at h6 h5
   exact h ⟨h6.1,by rw [←h6.2];exact h5⟩
  ·rw [h6] at h5;cases h5

theorem word_shift {s t:ByteArray} (d:Nat) {j kd a b n:Nat} (hj:j<s.size) (h:oneS s j = .word kd a b n) (hA:∀i,j≤i→i<n→bt t (d+i)=bt s i) (hn:d+n≤t.size)
  (hE:d+n<t.size→(n<s.size∧bt t (d+n)=bt s n)∨innerN (bt t (d+n))=false):oneS t (d+j) = .word kd (d+a) (d+b) (d+n):=by
 have hw:=one_word hj h
 have h0:=hA j (Nat.le_refl _) hw.1
 unfold oneS at h ⊢
 rw [h0]
 split at h
 ·rename_i h1;rw [if_pos h1];injection h with e1 e2 e3 e4;rw [←e1,←e2,←e3,←e4];rfl
 rename_i h1;rw [if_neg h1]
 split at h
 ·rename_i h2;rw [if_pos h2]
  split at h
  ·rename_i h3
   injection h with e1 e2 e3 e4
   simp only [Bool.and_eq_true] at h3
   have ho:ordS t (d+j) (d+j+1)=(d+(ordS s j (j+1)).1,true):=by
    refine ord_shift d j (j+1) hj ?_ (by rw [e3];omega) (by omega) h3.1 ?_
    ·intro i hi hi';exact hA i hi (by omega)
    ·intro hlt
     rw [e4] at hlt ⊢
     rcases hE hlt with h4 | h4
     ·exact Or.inl h4
     ·exact Or.inr (letter_of_inner h4)
   rw [ho,extract_shift (s:=s) d (by omega) (by omega) (fun i hi hi'=>hA i hi (by omega)),if_pos (by simp [h3.2])]
   rw [←e1,←e2,←e3,←e4]
  ·cases h
 rename_i h2;rw [if_neg h2]
 split at h
 ·rename_i h3;rw [if_pos h3]
  split at h
  ·rename_i h4
   injection h with e1 e2 e3 e4
   have hr:runS plainN t (d+j+1) 16=d+runS plainN s (j+1) 16:=by
    refine run_shift plainN d 16 (j+1) (fun i hi hi'=>hA i (by omega) (by omega)) (by omega) (fun _=>Or.inl ⟨h4.2.1,hA _ (by omega) (by omega)⟩)
   rw [hr,if_pos ⟨by omega,by omega,by rw [hA _ (by omega) (by omega)];exact h4.2.2⟩]
   rw [←e1,←e2,←e3,←e4];rfl
  ·cases h
 rename_i h3;rw [if_neg h3]
 split at h
 ·rename_i h4;rw [if_pos h4]
  split at h
  ·cases h
  ·rename_i h5
   injection h with e1 e2 e3 e4
   have hr:runS innerN t (d+j) 16=d+runS innerN s j 16:=by
    refine run_shift innerN d 16 j (fun i hi hi'=>hA i (by omega) (by omega)) (by omega) (fun hlt=>?_)
    rw [e4] at hlt ⊢
    rcases hE hlt with h6 | h6
    ·exact Or.inl h6
    ·exact Or.inr (Or.inl h6)
   rw [hr,if_neg]
   ·rw [←e1,←e2,←e3,←e4]
   rintro ⟨h6,h7⟩
   rw [e4] at h6 h7
   rcases hE h6 with h8 | h8
   ·exact h5 (by rw [e4];exact ⟨h8.1,by rw [←h8.2];exact h7⟩)
   ·rw [h8] at h7;cases h7
 ·cases h

/-! ### Blanks -/
def gapRun:List Nat→Bool→Option Bool
 | [],cm=>some cm
 | c::l,true=>gapRun l (decide (c≠10))
 | c::l,false=>if c=35 then gapRun l true else if blankN c then gapRun l false else none

theorem gap_skip {t:ByteArray}:∀(l:List Nat) (cm cm':Bool) (i:Nat),gapRun l cm=some cm'→(∀k c,l[k]?=some c→bt t (i+k)=c)→i+l.length≤t.size→skipS t cm i=skipS t cm' (i+l.length)
 | [],cm,cm',i,h,_,_=>by simp [gapRun] at h;rw [h];rfl
 | c::l,cm,cm',i,h,ha,hle=>by
  have h0:bt t i=c:=ha 0 c rfl
  have hi:i<t.size:=by simp at hle;omega
  have hrest:∀k x,l[k]?=some x→bt t (i+1+k)=x:=fun k x hk=>by
   rw [show i+1+k=i+(k+1) by omega];exact ha (k+1) x (by simpa using hk)
  have hl:i+(c::l).length=i+1+l.length:=by simp;omega
  rw [hl] at hle ⊢
  cases cm with
  | true =>
   simp only [gapRun] at h
   rw [←gap_skip l _ _ (i+1) h hrest hle]
   conv=>lhs;unfold skipS
   rw [if_pos hi,if_pos rfl,h0]
  | false =>
   simp only [gapRun] at h
   split at h
   ·rename_i h35
    rw [←gap_skip l _ _ (i+1) h hrest hle]
    conv=>lhs;unfold skipS
    rw [if_pos hi,if_neg (by simp),if_pos (by rw [h0];exact h35)]
   ·rename_i h35
    split at h
    ·rename_i hb
     rw [←gap_skip l _ _ (i+1) h hrest hle]
     conv=>lhs;unfold skipS
     rw [if_pos hi,if_neg (by simp),if_neg (by rw [h0];exact h35),if_pos (by rw [h0];exact hb)]
    ·cases h

def bytesN (s:ByteArray):List Nat:=s.data.toList.map (·.toNat)
theorem bytesN_len (s:ByteArray):(bytesN s).length=s.size:=by simp [bytesN]
theorem bytesN_at {s:ByteArray} {k c:Nat} (h:(bytesN s)[k]?=some c):bt s k=c:=by
 unfold bytesN at h
 rw [List.getElem?_map,Option.map_eq_some_iff] at h
 obtain ⟨x,hx,rfl⟩:=h
 rw [bt_list]
 simp [List.getD_eq_getElem?_getD,hx]

theorem app_bt {s t:ByteArray} {i:Nat} (h:i<s.size):bt (s++t) i=bt s i:=by
 rw [bt_list,bt_list]
 simp only [ByteArray.data_append,Array.toList_append,List.getD_eq_getElem?_getD]
 rw [List.getElem?_append_left (by simpa using h)]
theorem app_bt2 {s t:ByteArray} (i:Nat):bt (s++t) (s.size+i)=bt t i:=by
 rw [bt_list,bt_list]
 simp only [ByteArray.data_append,Array.toList_append,List.getD_eq_getElem?_getD]
 rw [List.getElem?_append_right (by simp)]
 simp

/-- May a text stand behind a word? -/
def Behind (U:ByteArray):Prop:=U.size=0∨blankN (bt U 0)=true∨bt U 0=35

/-- A text that is read as these words, whatever stands behind. -/
def Spread (T:ByteArray) (W:List Wd):Prop:=∀U:ByteArray,(T.size=0∨Behind U)→allS (T++U) 0=(W++(allS (T++U) T.size).1,(allS (T++U) T.size).2)

/-- A word's text by itself. -/
def OKW (s:ByteArray) (kd:Nat) (txt:ByteArray):Prop:=0<s.size∧blankN (bt s 0)=false∧bt s 0≠35∧∃a b,oneS s 0 = .word kd a b s.size∧s.extract a b=txt

theorem spread_nil:Spread ⟨#[]⟩ []:=by
 intro U _
 rfl

theorem app_assoc (a b c:ByteArray):a++b++c=a++(b++c):=by
 apply bs_ext
 simp [ByteArray.data_append]

theorem spread_step {T G s txt:ByteArray} {W:List Wd} {kd:Nat} (h:Spread T W) (hw:OKW s kd txt) (hG:gapRun (bytesN G) false=some false) (hG0:(G.size=0∧T.size=0)∨Behind G∧0<G.size) :
  Spread (T++G++s) (W++[((kd:Int),txt,((T.size+G.size:Nat):Int))]):=by
 obtain ⟨hs0,hs1,hs2,a,b,h1,h2⟩:=hw
 intro U hU
 have hsz:(T++G++s).size=T.size+G.size+s.size:=by rw [ByteArray.size_append,ByteArray.size_append]
 have hU:Behind U:=by
  rcases hU with hU | hU
  ·omega
  ·exact hU
 have hX:T++G++s++U=T++(G++(s++U)):=by rw [app_assoc,app_assoc]
 have hXs:(T++G++s++U).size=T.size+G.size+s.size+U.size:=by rw [ByteArray.size_append,hsz]
 have hU':T.size=0∨Behind (G++(s++U)):=by
  rcases hG0 with h3 | ⟨h3,h4⟩
  ·exact Or.inl h3.2
  ·refine Or.inr (Or.inr ?_)
   rw [app_bt h4]
   rcases h3 with h3 | h3
   ·omega
   ·exact h3
 have h3:=h (G++(s++U)) hU'
 rw [←hX] at h3
 rw [h3]
  -- the bytes
 have bG:∀i,i<G.size→bt (T++G++s++U) (T.size+i)=bt G i:=fun i hi=>by
  rw [hX,app_bt2,app_bt hi]
 have bs:∀i,i<s.size→bt (T++G++s++U) (T.size+G.size+i)=bt s i:=fun i hi=>by
  rw [hX,show T.size+G.size+i=T.size+(G.size+i) by omega,app_bt2,app_bt2,app_bt hi]
 have bU:bt (T++G++s++U) (T.size+G.size+s.size)=bt U 0:=by
  rw [hX,show T.size+G.size+s.size=T.size+(G.size+(s.size+0)) by omega,app_bt2,app_bt2,app_bt2]
 generalize hXX:T++G++s++U=X at hXs bG bs bU h3 ⊢
 have hk:skipS X false T.size=T.size+G.size:=by
  rw [gap_skip (bytesN G) false false T.size hG (fun k c hc=>by
   have hlt:=(List.getElem?_eq_some_iff.1 hc).1
   rw [bytesN_len] at hlt
   rw [bG k hlt];exact bytesN_at hc) (by rw [bytesN_len];omega),bytesN_len]
  have e:=bs 0 hs0
  rw [Nat.add_zero] at e
  exact skip_none (by omega) (by rw [e];exact hs1) (by rw [e];exact hs2)
 have hw':=one_word hs0 h1
 have ho:oneS X (T.size+G.size) = .word kd (T.size+G.size+a) (T.size+G.size+b) (T.size+G.size+s.size):=by
  refine word_shift (T.size+G.size) hs0 h1 (fun i _ hi=>bs i hi) (by omega) (fun hlt=>Or.inr ?_)
  rw [bU]
  rcases hU with hU | hU | hU
  ·omega
  ·simp [blankN,innerN,letterN] at hU ⊢;omega
  ·rw [hU];rfl
 rw [all_word (by rw [hk];omega) (by rw [hk];exact ho),hk,extract_shift (s:=s) (T.size+G.size) (by omega) (by omega) (fun j hj hj'=>bs j (by omega)),h2,hsz]
 simp

theorem spread_end {T U:ByteArray} {W:List Wd} {cm:Bool} (h:Spread T W) (hU:Behind U) (hg:gapRun (bytesN U) false=some cm):allS (T++U) 0=(W,none):=by
 rw [h U (Or.inr hU)]
 have hsz:(T++U).size=T.size+U.size:=ByteArray.size_append
 have hk:skipS (T++U) false T.size=(T++U).size:=by
  rw [gap_skip (bytesN U) false cm T.size hg (fun k c hc=>by rw [app_bt2];exact bytesN_at hc) (by rw [bytesN_len];omega),bytesN_len,skip_end (by omega)]
  omega
 rw [all_end (by omega)]
 simp

theorem okw_name {s:ByteArray} (h:NameP s):OKW s 1 s:=by
 refine ⟨h.1,?_,?_,0,s.size,(name_one h).2,extract_all s⟩
 ·have:=h.2.2.1;simp [letterN,blankN] at *;omega
 ·have:=h.2.2.1;simp [letterN] at *;omega
theorem okw_quo {s:ByteArray} (h:TermP s):OKW (quo s) 2 s:=by
 obtain ⟨h1,h2,h3⟩:=term_run.1 h
 refine ⟨by rw [quo_size];omega,by rw [quo_0];rfl,by rw [quo_0];omega,1,s.size+1,?_,quo_extract s⟩
 rw [quo_one,h3,if_pos ⟨by omega,by omega,quo_end s⟩,quo_size]

def isW (o:One) (kd a b n:Nat):Bool:=match o with
 | .word k x y z=>k == kd && x == a && y == b && z == n
 | .bad _=>false
theorem isW_eq {o:One} {kd a b n:Nat} (h:isW o kd a b n=true):o = .word kd a b n:=by
 cases o with
 | bad k=>cases h
 | word k x y z=>simp [isW] at h;rw [h.1.1.1,h.1.1.2,h.1.2,h.2]
def okwB (s:ByteArray) (kd:Nat):Bool:=decide (0<s.size) && !(blankN (bt s 0)) && decide (bt s 0≠35) && isW (oneS s 0) kd 0 s.size s.size
theorem okw_of {s:ByteArray} {kd:Nat} (h:okwB s kd=true):OKW s kd s:=by
 simp [okwB] at h
 exact ⟨h.1.1.1,h.1.1.2,h.1.2,0,s.size,isW_eq h.2,extract_all s⟩
end Go.Px.Scan

/-
  Texts that begin alike: their words.
-/
namespace Go.Px.Scan
open Go.Px

/-- A word as it is written. -/
def wr (w:Wd):ByteArray:=if w.1=2 then quo w.2.1 else w.2.1

end Go.Px.Scan

/-
  What is told is plain.
-/
namespace Go.Px.Spec
open Go.Px Go.Px.Scan
theorem lvT_in {ts:List (ByteArray×Int)} {t:ByteArray} {x:Int} (h:lvT ts t=some x):(t,x)∈ts:=by
 unfold lvT at h
 cases e:ts[posN (ts.map (·.1)) t]? with
 | none=>rw [e] at h;cases h
 | some y =>
  rw [e] at h
  injection h with h
  have hin:t∈ts.map (·.1):=by
   refine Classical.byContradiction fun hn=>?_
   rw [posN_no hn,List.length_map,List.getElem?_eq_none (Nat.le_refl _)] at e;cases e
  have h2:=(posN_in hin).2
  rw [List.getElem?_map,e] at h2
  injection h2 with h2
  have hy:y=(t,x):=Prod.ext h2 h
  rw [←hy]
  exact List.mem_of_getElem? e
/-- Each level has a terminal. -/
theorem lv_used {hs:List (Nat×List ByteArray)} (hok:HOk hs) (hn:∀x∈hs,∀t∈x.2,t≠noT) (hne:∀x∈hs,x.2≠[]):∀i:Nat,i<(hTl hs).2.length→∃t,t≠noT∧lvT (hTl hs).1 t=some ((i:Int)+1):=by
 have key:∀n,∀hs:List (Nat×List ByteArray),hs.length=n→HOk hs→(∀x∈hs,∀t∈x.2,t≠noT)→(∀x∈hs,x.2≠[])→∀i:Nat,i<(hTl hs).2.length→∃t,t≠noT∧lvT (hTl hs).1 t=some ((i:Int)+1):=fun n=>by
  induction n with
  | zero=>intro hs hl _ _ _ i hi;rw [List.length_eq_zero_iff.1 hl] at hi;simp [hTl] at hi
  | succ n ih =>
   intro hs hl hok hn hne i hi
   rcases List.eq_nil_or_concat hs with e | ⟨a,⟨d,l⟩,e⟩
   ·rw [e] at hl;simp at hl
   ·have e':hs=a++[(d,l)]:=by simpa using e
    subst e'
    have hna:∀x∈a,∀t∈x.2,t≠noT:=fun x hx=>hn x (by simp [hx])
    obtain ⟨h1,h2,h3⟩:=hok.inv rfl
    rw [hTl_snoc] at hi ⊢
    unfold hstep at hi ⊢
    simp only at hi ⊢
    by_cases hd:0<d
    ·simp only [if_pos hd,List.length_append,List.length_singleton] at hi ⊢
     rcases Nat.lt_or_ge i (hTl a).2.length with hlt | hge
     ·obtain ⟨t,ht,hv⟩:=ih a (by simpa using hl) h1 hna (fun x hx=>hne x (by simp [hx])) i hlt
      refine ⟨t,ht,?_⟩
      rw [lvT_fold _ (by omega),if_neg,hv]
      intro hb
      refine (h3 hd).2 t (hasB_iff.1 hb) ?_
      rw [kn_hTl h1 hna ht,hv]
      have:(0:Int)<(i:Int)+1:=by omega
      simp [knOf,this]
     ·obtain ⟨t,l',hl'⟩:=List.exists_cons_of_ne_nil (hne (d,l) (by simp))
      have hl':l=t::l':=hl'
      refine ⟨t,hn (d,l) (by simp) t (by rw [hl'];simp),?_⟩
      rw [lvT_fold _ (by omega),if_pos (hasB_iff.2 (by rw [hl'];simp))]
      congr 1;omega
    ·simp only [if_neg hd] at hi ⊢
     obtain ⟨t,ht,hv⟩:=ih a (by simpa using hl) h1 hna (fun x hx=>hne x (by simp [hx])) i hi
     refine ⟨t,ht,?_⟩
     rw [lvT_fold0,hv]
     split <;> rfl
 exact key _ hs rfl hok hn hne
theorem lv_lo (hs:List (Nat×List ByteArray)):∀x∈(hTl hs).2,1≤x:=by
 have:∀(hs:List (Nat×List ByteArray)) (a:List (ByteArray×Int)×List Int),(∀x∈a.2,1≤x)→∀x∈(hs.foldl hstep a).2,1≤x:=fun hs=>by
  induction hs with
  | nil=>exact fun a h=>h
  | cons h hs ih =>
   intro a ha
   rw [List.foldl_cons]
   refine ih _ fun t ht=>?_
   unfold hstep at ht
   simp only at ht
   split at ht
   ·rcases List.mem_append.1 ht with h1 | h1
    ·exact ha t h1
    ·rw [List.mem_singleton.1 h1];omega
   ·exact ha t ht
 exact this hs _ (by simp)
/-- A name's place among names that are all unlike. -/
theorem pos_at {l:List ByteArray} (hd:l.Nodup) {i:Nat} (hi:i<l.length):posN l l[i]=i:=by
 have hm:l[i]∈l:=List.getElem_mem hi
 obtain ⟨h3,h4⟩:=posN_in hm
 rw [List.getElem?_eq_getElem h3] at h4
 injection h4 with h4
 exact (List.getElem_inj hd).1 h4
end Go.Px.Spec
namespace Go.Proofs.YtckbgeedlobfaaaDoor
open Go.Px Go.Px.Scan Go.Px.Spec Go.RowKit

theorem fin_lefts {m:Mc} (F:FinM m):leftsOf (gOf (numX (rxOf m))).prods=(dd m.lefts).map (nonX (numX (rxOf m)).ts.length (dd m.lefts)):=by
 have hinj:∀x y:ByteArray,x∈dd m.lefts→y∈dd m.lefts→nonX (numX (rxOf m)).ts.length (dd m.lefts) x=nonX (numX (rxOf m)).ts.length (dd m.lefts) y→x=y:=fun x y hx hy h=>by
  unfold nonX at h
  rw [if_pos (posN_in hx).1,if_pos (posN_in hy).1] at h
  exact (posN_inj hx (by omega)).symm
 have:=lefts_fold (f:=nonX (numX (rxOf m)).ts.length (dd m.lefts)) (g:=gPr (numX (rxOf m))) (P:=fun x=>x∈dd m.lefts) hinj m.rows [] (by simp) fun r hr=>⟨mem_dd.2 ((fin_lr F _).2 (List.mem_map.2 ⟨r,hr,rfl⟩)),rfl⟩
 rw [List.map_nil] at this
 unfold leftsOf
 rw [show (gOf (numX (rxOf m))).prods=m.rows.map (gPr (numX (rxOf m))) from rfl,this]
 show (dd (m.rows.map (·.left))).map _=_
 rw [F.lr]

theorem fin_valid {m:Mc} (hok:HOk m.heads) (F:FinM m) (hsm:¬((numX (rxOf m)).ts.length-1+(numX (rxOf m)).ls.length > 64∨(numX (rxOf m)).rows.length > 96)):ValidP (gOf (numX (rxOf m))):=by
 have hts:=fin_ts F
 have hlv:(numX (rxOf m)).lv=(hTl m.heads).2:=by rw [fin_lv F];exact (Mor.rows m.lefts m.rows (Sof m.heads)).lev
 have hnT:∀x∈m.heads,∀t∈x.2,t≠noT:=fun x hx t ht=>noT_size ((F.ht x hx).2 t ht).1
 obtain ⟨r0,e1,e2⟩:=(Mor.rows m.lefts m.rows (Sof m.heads)).terms
 have e3:(allS_ m).terms=(hTl m.heads).1++r0:=e1
 have hT:∀t∈(allS_ m).terms,TermP t.1:=fun t ht=>by
  refine foldN_term (fin_rowT F) (hTl_term fun x hx=>(F.ht x hx).2) t.1 (List.mem_map.2 ⟨t,?_,rfl⟩)
  rw [←fin_terms F];exact ht
 have hlev:∀t∈(allS_ m).terms,0≤t.2∧t.2≤((numX (rxOf m)).lv.length:Int):=fun x hx=>by
  rw [e3] at hx
  rcases List.mem_append.1 hx with hx | hx
  ·have h1:=(hTl_good m.heads).1 x hx
   have h2:=hTl_hi m.heads x hx
   rw [hlv];exact ⟨h1,h2⟩
  ·have:=e2 x hx;omega
 have hlevT:∀t∈(numX (rxOf m)).ts,0≤t.2∧t.2≤((numX (rxOf m)).lv.length:Int):=fun x hx=>by
  rw [hts] at hx
  rcases List.mem_cons.1 hx with rfl | hx
  ·simp
  ·exact hlev x hx
 have hlen:(numX (rxOf m)).ts.length=(allS_ m).terms.length+1:=by rw [hts,List.length_cons]
 have hls:(numX (rxOf m)).ls=dd m.lefts:=rfl
 have hdne:0<(dd m.lefts).length:=by
  obtain ⟨r,rs,e⟩:=List.exists_cons_of_ne_nil F.ne
  have:r.left∈dd m.lefts:=mem_dd.2 ((fin_lr F _).2 (List.mem_map.2 ⟨r,by rw [e];simp,rfl⟩))
  exact List.length_pos_of_mem this
 have hnX:∀s∈m.lefts,((numX (rxOf m)).ts.length:Int)≤nonX (numX (rxOf m)).ts.length (dd m.lefts) s∧nonX (numX (rxOf m)).ts.length (dd m.lefts) s<((numX (rxOf m)).ts.length:Int)+(dd m.lefts).length:=fun s hs=>by
  have:=(posN_in (mem_dd.2 hs)).1
  unfold nonX
  rw [if_pos this];omega
 have hrl:∀r∈m.rows,r.left∈m.lefts:=fun r hr=>(fin_lr F _).2 (List.mem_map.2 ⟨r,hr,rfl⟩)
 have hnd:((allS_ m).terms.map (·.1)).Nodup:=by
  rw [fin_terms F]
  have:∀(l:List RowS) (ts:List (ByteArray×Int)),(ts.map (·.1)).Nodup→((l.foldl (numF m.lefts) ts).map (·.1)).Nodup:=fun l=>by
   induction l with
   | nil=>exact fun ts h=>h
   | cons r l ih =>
    intro ts h
    rw [List.foldl_cons]
    refine ih _ ?_
    unfold numF
    rw [names_put]
    exact nodup_fold h
  exact this _ _ (hTl_good m.heads).2
 have hstart:((numX (rxOf m)).ts.length:Int)≤(gOf (numX (rxOf m))).start∧(gOf (numX (rxOf m))).start<((numX (rxOf m)).ts.length:Int)+(dd m.lefts).length:=by
  show _≤(if m.start=noT then _ else _)∧(if m.start=noT then _ else _)<_
  by_cases hs:m.start=noT
  ·rw [if_pos hs];omega
  ·rw [if_neg hs]
   exact hnX _ (by rcases F.st with h | h;exact absurd h hs;exact h)
 have hL:=fin_lefts F
 refine ⟨⟨?_,?_,?_,?_,?_,?_,?_,?_,?_,?_⟩,⟨?_,?_,?_,?_,?_,?_⟩,?_⟩
 ·show (numX (rxOf m)).ts.head?=_
  rw [hts];rfl
 ·exact hdne
 ·show (numX (rxOf m)).ts.length≤_
  omega
 ·show (dd m.lefts).length≤_
  rw [hls] at hsm;omega
 ·show (numX (rxOf m)).ts.length-1+((dd m.lefts).length-0)≤64
  rw [hls] at hsm;omega
 ·intro t ht
  have ht':t∈(allS_ m).terms:=by
   have:(gOf (numX (rxOf m))).terms.tail=(allS_ m).terms:=by show (numX (rxOf m)).ts.tail=_;rw [hts];rfl
   rw [this] at ht;exact ht
  exact ⟨hT t ht',(hlev t ht').1,(hlev t ht').2⟩
 ·intro i hi
  have hi':i<(hTl m.heads).2.length:=by rw [←hlv];exact hi
  have hx:(gOf (numX (rxOf m))).levels[i]∈(hTl m.heads).2:=by rw [←hlv];exact List.getElem_mem hi
  have h1:=lv_lo m.heads _ hx
  have h2:=lv_sides F.hd _ hx
  refine ⟨h1,h2.2,?_⟩
  obtain ⟨t,_,hv⟩:=lv_used hok hnT (fun x hx=>(F.ht x hx).1) i hi'
  refine ⟨(t,(i:Int)+1),?_,rfl⟩
  show _∈(numX (rxOf m)).ts.tail
  rw [hts,List.tail_cons,e3]
  exact List.mem_append_left _ (lvT_in hv)
 ·show ((numX (rxOf m)).ts.tail.map (·.1)).Nodup
  rw [hts,List.tail_cons];exact hnd
 ·show ((dd m.lefts).drop 0).Nodup
  rw [List.drop_zero];exact nodup_dd _
 ·intro s hs
  rw [List.drop_zero] at hs
  exact F.ln s (mem_dd.1 hs)
 ·show 0<(m.rows.map _).length
  rw [List.length_map];exact List.length_pos_iff.2 F.ne
 ·show (m.rows.map _).length≤_
  rw [List.length_map]
  have:(numX (rxOf m)).rows=m.rows:=rfl
  rw [this] at hsm;omega
 ·intro p hp
  rw [List.drop_zero] at hp
  obtain ⟨r,hr,rfl⟩:=List.mem_map.1 hp
  have hr:r∈m.rows:=hr
  have hb:=rlev_bounds (K:=((numX (rxOf m)).lv.length:Int)) (by omega) hlevT (numX (rxOf m)).ls r
  have hx:=hnX _ (hrl r hr)
  refine ⟨?_,hx.2,hb.1,hb.2,fun s hs=>?_⟩
  ·have:=hx.1
   show (_:Int)+0≤_
   rw [Int.add_zero];exact this
  ·obtain ⟨w,hw,rfl⟩:=List.mem_map.1 hs
   obtain ⟨hw1,hw2,_⟩:=fin_word F hr hw
   obtain ⟨⟨k,hri⟩,_⟩:=F.ri r hr
   have hwx:=hri.wx w hw
   have hTn:=noT_size (Tm.term ⟨w,hwx.1,hwx.2,rfl⟩:TermP w.2.1).1
   have hin:=(fin_has r hr).2.1 w hw
   have hlo:1≤symX (numX (rxOf m)).ts (dd m.lefts) w:=by
    unfold inW at hin
    unfold symX
    rw [nonX_dd]
    by_cases h:isNonX m.lefts w=true
    ·rw [if_pos h]
     rw [if_pos h] at hin
     have:=(hnX _ (((fin_nons F).2 _).1 hin)).1
     omega
    ·rw [if_neg h]
     rw [if_neg h] at hin
     rw [fin_posI F hTn hin,posH_mem hin];omega
   have hhi:symX (numX (rxOf m)).ts (dd m.lefts) w<((numX (rxOf m)).ts.length:Int)+(dd m.lefts).length:=by
    unfold symX
    split
    ·unfold nonX;split <;> omega
    ·have:=posI_lt (ts:=(numX (rxOf m)).ts) (t:=w.2.1);omega
   refine ⟨hlo,hhi,fun h=>?_⟩
   show (_:Int)+0≤_
   rw [Int.add_zero];exact h
 ·rw [List.drop_zero,hL,List.length_map];rfl
 ·have:=hstart.1
  show (_:Int)+0≤_
  rw [Int.add_zero];exact this
 ·exact hstart.2
 ·rw [hL,List.pairwise_iff_getElem]
  intro i j hi hj hij
  rw [List.length_map] at hi hj
  rw [List.getElem_map,List.getElem_map]
  unfold nonX
  rw [pos_at (nodup_dd _) hi,pos_at (nodup_dd _) hj,if_pos hi,if_pos hj]
  omega

/-- What is told, in brief. -/
theorem ref_plain (s:ByteArray):((refG s).2.1=0∧badS s = -1∧ValidP (refG s).1∧(refG s).2.2=0)∨((refG s).2.1=10∧badS s=(refG s).2.2∧0≤badS s∧(refG s).1=gz)∨((refG s).2.1=11∧badS s = -1∧(refG s).2.2=0∧(refG s).1=gz):=by
 unfold refG
 by_cases hb:0≤badS s
 ·rw [if_pos hb]
  exact .inr (.inl ⟨rfl,rfl,hb,rfl⟩)
 ·rw [if_neg hb]
  have h1:badS s = -1:=by rcases bad_lo s with h | h;exact h;exact absurd h hb
  obtain ⟨_,m,hg,h9⟩:=bad_acc (by omega:badS s<0)
  have mi:=goM_mi s hg
  rw [hg]
  simp only
  split
  ·exact .inr (.inr ⟨rfl,h1,rfl,rfl⟩)
  ·rename_i hsm
   exact .inl ⟨rfl,h1,fin_valid mi.hok (mi.fin h9) hsm,rfl⟩
end Go.Proofs.YtckbgeedlobfaaaDoor

/-
  Where a bad place may be.
-/
namespace Go.Proofs.YtckbgeedlobfaaaDoor
open Go.Px Go.Px.Scan Go.Px.Spec Go.RowKit
theorem small_words {s:ByteArray} (h:¬8192<s.size):wordsS s=allS s 0:=by unfold wordsS;rw [if_neg h]
end Go.Proofs.YtckbgeedlobfaaaDoor

/-
  Bad places of texts that begin alike.
-/
namespace Go.Proofs.YtckbgeedlobfaaaDoor
open Go.Px Go.Px.Scan Go.Px.Spec Go.RowKit

end Go.Proofs.YtckbgeedlobfaaaDoor

/-
  What is told hangs on words' kinds and texts alone.
-/
namespace Go.Px.Spec
open Go.Px Go.Px.Scan
def erW (w:Wd):Wd:=(w.1,w.2.1,0)
def erR (r:RowS):RowS:={r with words:=r.words.map erW }
def erM (m:Mc):Mc:={m with rows:=m.rows.map erR }
theorem modLast_map {α β:Type} (l:List α) (g:α→β) (f:α→α) (f':β→β) (h:∀x,g (f x)=f' (g x)):(modLast l f).map g=modLast (l.map g) f':=by
 rcases List.eq_nil_or_concat l with e | ⟨a,x,e⟩
 ·rw [e];rfl
 ·have e':l=a++[x]:=by simpa using e
  subst e'
  rw [modLast_snoc,List.map_append,List.map_append,List.map_singleton,List.map_singleton,modLast_snoc,h]
theorem ite_map {α β:Type} {p:Prop} [Decidable p] (f:α→β) (a b:Option α):(if p then a else b).map f=if p then a.map f else b.map f:=by split <;> rfl
theorem er_step (m:Mc) (w:Wd):stepM (erM m) (erW w)=(stepM m w).map erM:=by
 have hb:beginS (erM m) (erW w)=(beginS m w).map erM:=by unfold beginS;rw [ite_map];rfl
 have hh:headS (erM m) (erW w)=(headS m w).map erM:=by
  unfold headS
  simp only [erW]
  cases sideOf w.2.1 with
  | some d=>rfl
  | none=>simp only;rw [ite_map];rfl
 have hl:listS (erM m) w.2.1=(listS m w.2.1).map erM:=by unfold listS;rw [ite_map];rfl
 have ha:anotherS (erM m)=erM (anotherS m):=by simp [anotherS,erM,erR]
 have hm:∀(f f':RowS→RowS),(∀r,erR (f r)=f' (erR r))→modLast (m.rows.map erR) f'=(modLast m.rows f).map erR:=fun f f' hf=>(modLast_map _ _ _ _ hf).symm
 have hw:withinS (erM m) (erW w)=(withinS m w).map erM:=by
  have b3:=hm (fun r=>{r with words:=r.words++[w] }) (fun r=>{r with words:=r.words++[erW w] }) fun r=>by simp [erR]
  have b4:=hm (fun r=>{r with said:=1 }) (fun r=>{r with said:=1 }) fun r=>rfl
  have b5:=hm (fun r=>{r with said:=2 }) (fun r=>{r with said:=2 }) fun r=>rfl
  unfold withinS
  show (if isSg w sBar=true then some (anotherS (erM m)) else if isSg w sSemi=true then some (erM {m with ph:=9 }) else
   if m.ph=6∧isTB w=true then some {m with rows:=modLast (m.rows.map erR) fun r=>{r with words:=r.words++[erW w] } } else
   if m.ph=6∧isOr w kPrec=true then some {m with ph:=7,rows:=modLast (m.rows.map erR) fun r=>{r with said:=1 } } else
   if m.ph=6∧isOr w kNone=true then some {m with ph:=8,rows:=modLast (m.rows.map erR) fun r=>{r with said:=2 } } else none)=_
  rw [b3,b4,b5,ha,ite_map,ite_map,ite_map,ite_map,ite_map]
  rfl
 have b7:=hm (fun r=>{r with by_:=w.2.1 }) (fun r=>{r with by_:=w.2.1 }) fun r=>rfl
 unfold stepM
 rw [show (erM m).ph=m.ph from rfl]
 split
 ·rw [ite_map,←hb,←hh];rfl
 ·rw [ite_map,←hl];rfl
 ·rw [ite_map,ite_map,←hl];rfl
 ·rw [ite_map];rfl
 ·rw [ite_map];rfl
 ·rw [ite_map,Option.map_some,←ha];rfl
 ·rw [ite_map]
  show (if isTB w=true then some {m with ph:=8,rows:=modLast (m.rows.map erR) fun r=>{r with by_:=w.2.1 } } else none)=_
  rw [b7];rfl
 ·exact hb
 ·exact hw
theorem er_go (l:List Wd):∀m:Mc,goM (erM m) (l.map erW)=(erM (goM m l).1,(goM m l).2.map erW):=by
 induction l with
 | nil=>exact fun m=>rfl
 | cons w l ih =>
  intro m
  rw [List.map_cons]
  cases hs:stepM m w with
  | none=>rw [goM_stuck hs,goM_stuck (by rw [er_step,hs];rfl)];rfl
  | some m1=>rw [goM_step hs,goM_step (m':=erM m1) (by rw [er_step,hs];rfl),ih]
theorem er_end (m:Mc):endOk (erM m)=endOk m:=rfl
end Go.Px.Spec

/-
  Chapter 04's laws: same, alike, awake.
-/
namespace Go.Proofs.YtckbgeedlobfaaaDoor
open Go.Px Go.Px.Scan Go.Px.Spec Go.RowKit
attribute [-go_sem] Builtin.append_ law04_alike.b1_4 law04_alike.b1_3 law04_alike.b1_2 law04_awake.b1_7 law04_awake.b1_6 law04_awake.b1_5 law04_awake.b1_3

open Classical in
noncomputable def eqB {α:Type} (a b:α):Bool:=decide (a=b)
theorem eqB_iff {α:Type} {a b:α}:eqB a b=true↔a=b:=@decide_eq_true_iff _ (_)
theorem eqB_no {α:Type} {a b:α} (h:a≠b):eqB a b=false:=by rw [Bool.eq_false_iff];exact fun h'=>h (eqB_iff.1 h')
theorem eqB_of {α:Type} {a b:α} (h:a=b):eqB a b=true:=eqB_iff.2 h

theorem alike_ct {s t:ByteArray} {w:World} {B:Nat} (hs:s.size≤maxLen) (ht:t.size≤maxLen) (hO:Ord w B) (hB:B≤w.heap.size) :
  Ct Tryd.prog law04_alike.id #[.string s,.string t] w fun v w'=>v = .bool (eqB (refG s) (refG t))∧Chg noB w w':=by
 refine law04_alike.ct fun R hR=>?_
 unfold law04_alike.run law04_alike.b1
 refine CALL_of (Read_as hs hO hB) ?_
 rintro _ w1 ⟨vg,rfl,hr,hc⟩
 generalize refG s=x at *
 obtain ⟨A1,c1,A2,c2,A3,c3,A4,c4,rfl,_⟩:=(rGram_open hr).ex
 unfold law04_alike.b1_4
 refine take2 (L:=[]) (St.refl noB w1) fun q1 q2 w2 hc2 s2=>?_
 have hO2:=hO.chg (hc.trans hc2) hB fun _ _=>id
 have hB2:B≤w2.heap.size:=by have:=(hc.trans hc2).size;omega
 refine CALL_of (Read_as ht hO2 hB2) ?_
 rintro _ w3 ⟨vh,rfl,hr3,hc3⟩
 generalize refG t=y at *
 obtain ⟨B1,d1,B2,d2,B3,d3,B4,d4,rfl,_⟩:=(rGram_open hr3).ex
 unfold law04_alike.b1_3
 refine take2 (s2.old hc3) fun q3 q4 w4 hc4 s4=>?_
 have l1:=loadG s4 (k:=0) rfl
 have l2:=loadG s4 (k:=2) rfl
 rw [RUN_eq,l1,RES_ok,RUN_eq,l2,RES_ok]
 have hb1:=(hc2.trans (hc3.trans hc4)).below (Nat.le_refl _) fun _ _=>id
 have z1:w1.heap.size≤w3.heap.size:=(hc2.trans hc3).size
 have hb2:=hc4.below (Nat.le_refl _) fun _ _=>id
 refine CALL_of (refSame_ct (rGram_up (rGram_below hr hb1) z1) (rGram_below hr3 hb2) hc4.size) ?_
 rintro _ w5 ⟨rfl,hc5⟩
 have s5:=s4.old hc5
 have k1:=(s5.box 1 rfl).1
 have k3:=(s5.box 3 rfl).1
 simp [boxAt,mB] at k1 k3
 have hcc:Chg noB w w5:=hc.trans (hc2.trans (hc3.trans (hc4.trans hc5)))
 refine SPL_intro (fun p=>?_) (fun p=>?_)
 ·have p1:=sameB_iff.1 p
  unfold law04_alike.b1_2
  simp -dsimp [go_sem,k1,k3]
  refine SPL_intro (fun q2=>?_) (fun q2=>?_) <;> simp at q2
  ·simp -dsimp [go_sem,k1,k3]
   refine hR _ _ ⟨?_,hcc⟩
   by_cases q3:x.2.2=y.2.2
   ·rw [eqB_of (Prod.ext p1 (Prod.ext q2 q3))];simp [q3]
   ·rw [eqB_no fun e=>q3 (by rw [e])];simp [q3]
  ·exact hR _ _ ⟨by rw [eqB_no fun e=>q2 (by rw [e])],hcc⟩
 ·have hn:x≠y:=fun e=>by rw [sameB_iff.2 (by rw [e])] at p;cases p
  exact hR _ _ ⟨by rw [eqB_no hn],hcc⟩
end Go.Proofs.YtckbgeedlobfaaaDoor

/-
  Chapter 04's laws: awake.
-/
namespace Go.Proofs.YtckbgeedlobfaaaDoor
open Go.Px Go.Px.Scan Go.Px.Spec Go.RowKit
attribute [-go_sem] Builtin.append_ law04_awake.b1_7 law04_awake.b1_6 law04_awake.b1_1

def awkA:ByteArray:=⟨#[101,32,58,32,101,32,39,43,39,32,110,32,124,32,110,32,59]⟩
def awkB:ByteArray:=⟨#[115,32,58]⟩
theorem awkA_is:(refG awkA).2.1=0∧(refG awkA).1.prods.length=2∧(refG awkA).1.terms.length=3:=by decide +kernel
theorem awkB_is:(refG awkB).2.1=10∧(refG awkB).2.2=3:=by decide +kernel
theorem awkC_is:badS ⟨#[]⟩=0:=by decide +kernel
theorem awk_le:awkA.size≤maxLen∧awkB.size≤maxLen∧(⟨#[]⟩:ByteArray).size≤maxLen:=by decide

theorem awake_ct {w:World} {B:Nat} (hO:Ord w B) (hB:B≤w.heap.size):Ct Tryd.prog law04_awake.id #[] w fun v w'=>v = .bool true∧Chg noB w w':=by
 refine law04_awake.ct fun R hR=>?_
 unfold law04_awake.run law04_awake.b1
 refine CALL_of (Read_as (s:=awkA) awk_le.1 hO hB) ?_
 rintro _ w1 ⟨vg,rfl,hr,hc⟩
 obtain ⟨a1,a2,a3⟩:=awkA_is
 generalize refG awkA=x at *
 obtain ⟨A1,c1,A2,c2,A3,c3,A4,c4,rfl,_⟩:=(rGram_open hr).ex
 unfold law04_awake.b1_7
 refine take2 (L:=[]) (St.refl noB w1) fun q1 q2 w2 hc2 s2=>?_
 have hO2:=hO.chg (hc.trans hc2) hB fun _ _=>id
 have hB2:B≤w2.heap.size:=by have:=(hc.trans hc2).size;omega
 refine CALL_of (Read_as (s:=awkB) awk_le.2.1 hO2 hB2) ?_
 rintro _ w3 ⟨vh,rfl,hr3,hc3⟩
 obtain ⟨b1,b2⟩:=awkB_is
 generalize refG awkB=y at *
 obtain ⟨B1,d1,B2,d2,B3,d3,B4,d4,rfl,_⟩:=(rGram_open hr3).ex
 unfold law04_awake.b1_6
 refine take2 (s2.old hc3) fun q3 q4 w4 hc4 s4=>?_
 have hcc:Chg noB w w4:=hc.trans (hc2.trans (hc3.trans hc4))
 have k0:=(s4.box 0 rfl).1
 have k1:=(s4.box 1 rfl).1
 have k3:=(s4.box 3 rfl).1
 simp [boxAt,mB,a1,a2,a3,b1,b2] at k0 k1 k3
 simp -dsimp [go_sem,k0,k1,k3,a1,a2,a3,b1,b2]
 unfold law04_awake.b1_1
 refine CALL_of (Bad_ct awk_le.2.2 (hO.chg hcc hB fun _ _=>id) (by have:=hcc.size;omega)) ?_
 rintro _ w5 ⟨rfl,hc5⟩
 rw [awkC_is]
 simp -dsimp [go_sem]
 exact hR _ _ ⟨rfl,hcc.trans hc5⟩
end Go.Proofs.YtckbgeedlobfaaaDoor
