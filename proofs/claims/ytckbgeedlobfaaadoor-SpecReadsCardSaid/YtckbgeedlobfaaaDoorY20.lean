/-
  Texts of this claim: Rn2, Rn3, Cp1, Mk4, Mk5, Mk6, Mk7.
-/
import Derived.Test.YtckbgeedlobfaaaDoorY19
import Derived.Test.YtckbgeedlobfaaaDoorY03
import Derived.Test.YtckbgeedlobfaaaDoorY13
import Derived.Test.YtckbgeedlobfaaaDoorY14
import Derived.Test.YtckbgeedlobfaaaDoorY17
import Derived.Test.YtckbgeedlobfaaaDoorY10
set_option maxHeartbeats 1000000
set_option linter.unusedSimpArgs false
set_option linter.unusedVariables false
set_option maxRecDepth 100000
/-
  The document's text: number.
-/
namespace Go.Px.Spec
open Go.Px Go.Px.Scan
/-- The terminals of a row, as they come. -/
def rowT (ls:List ByteArray) (r:RowS):List ByteArray:=(r.words.filter fun w => !isNonX ls w).map (·.2.1)++(if r.said=1 then [r.by_] else [])
def numF (ls:List ByteArray) (ts:List (ByteArray×Int)) (r:RowS):List (ByteArray×Int):=(rowT ls r).foldl (fun ts t=>putT ts t 0) ts
def numX (x:Rx):Rx:={x with ts:=x.rows.foldl (numF x.ls) x.ts }
theorem putT_zero (ts:List (ByteArray×Int)) (t:ByteArray):putT ts t 0=if hasB (ts.map (·.1)) t then ts else ts++[(t,0)]:=by unfold putT;simp
end Go.Px.Spec
namespace Go.Proofs.YtckbgeedlobfaaaDoor
open Go.Px Go.Px.Scan Go.Px.Spec Go.RowKit
attribute [-go_sem] Builtin.append_ ref04_Text_number.b6 ref04_Text_number.b15 ref04_Text_number.b14_1 ref04_Text_number.b14_2 ref04_Text_number.b11 ref04_Text_number.b10_1 ref04_Text_number.b10 ref04_Text_number.b20 ref04_Text_number.b19_1 ref04_Text_number.b19_2 ref04_Text_number.b16 ref04_Text_number.b8

/-- Bounds of a text that was read. -/
structure NB (x:Rx):Prop where
 ts:x.ts.length≤10001
 lv:x.lv.length≤10000
 rows:x.rows.length≤10000
 ls:x.ls.length≤10000
 wl:∀r∈x.rows,r.words.length≤10000
 sum:(x.rows.map fun r=>r.words.length+1).sum≤20000

section
variable {G:Nat→Prop} {W w w1:World} {R:EP} {C3 C13:VP} {tb q:Nat} {x:Rx} {D:TD} {L:List Ch} {us:List Value} {c0:Ch}

theorem rf_at (s:St G W w (L++txA tb x D us)) {i:Nat} (hi:i<x.rows.length):∃g a c,D.Ar=some ⟨g,0,none⟩∧us[i]?=some (.slice a x.rows[i].words.length c)∧w.cell? ⟨g,i*4,none⟩=some (.string x.rows[i].left)∧w.cell? ⟨g,i*4+1,none⟩=some (.slice a x.rows[i].words.length c) ∧
  w.cell? ⟨g,i*4+2,none⟩=some (.int .i64 x.rows[i].said)∧w.cell? ⟨g,i*4+3,none⟩=some (.string x.rows[i].by_):=by
 have hk3:(L++txA tb x D us)[L.length+3]?=some (rowC 124 4 D.Ar x.rows.length D.cr ((x.rows.zip us).flatMap encRf)):=by rw [List.getElem?_append_right (by omega)];simp [txA]
 have hk4:(L++txA tb x D us)[L.length+4]?=some (rowsC 46 3 us (x.rows.map fun r=>r.words.flatMap encW)):=by rw [List.getElem?_append_right (by omega)];simp [txA]
 obtain ⟨a,n,c,hv,F,ho⟩:=rowsC_at s _ hk4 (i:=i) (by simpa using hi)
 have hn:=(row_size ho).1
 have hfl:∀l:List Wd,(l.flatMap encW).length=l.length*3:=fun l=>by
  induction l with
  | nil=>rfl
  | cons x l ih=>rw [List.flatMap_cons,List.length_append,ih,List.length_cons];show 3+_=_;omega
 simp only [List.getElem_map,hfl] at hn
 have hn':n=x.rows[i].words.length:=by omega
 subst hn'
 obtain ⟨F2,ho2,_⟩:=s.get hk3
 have hz:(x.rows.zip us)[i]?=some (x.rows[i],.slice a x.rows[i].words.length c):=by
  rw [List.getElem?_zip_eq_some];exact ⟨List.getElem?_eq_getElem hi,hv⟩
 obtain ⟨g,hg,hc,_⟩:=row_elem ho2 (fun _ _=>rfl) (by omega) hz
 exact ⟨g,a,c,hg,hv,hc 0 _ rfl,hc 1 _ rfl,hc 2 _ rfl,hc 3 _ rfl⟩

theorem rx_at (s:St G W w (L++txA tb x D us)) {i:Nat} (hi:i<x.rows.length) {a:Option Addr} {n c:Nat} (hv:us[i]?=some (.slice a n c)) {j:Nat} (hj:j<x.rows[i].words.length) :
  ∃g,a=some ⟨g,0,none⟩∧w.cell? ⟨g,j*3,none⟩=some (.int .i64 x.rows[i].words[j].1)∧w.cell? ⟨g,j*3+1,none⟩=some (.string x.rows[i].words[j].2.1)∧w.cell? ⟨g,j*3+2,none⟩=some (.int .i64 x.rows[i].words[j].2.2):=by
 have hk4:(L++txA tb x D us)[L.length+4]?=some (rowsC 46 3 us (x.rows.map fun r=>r.words.flatMap encW)):=by rw [List.getElem?_append_right (by omega)];simp [txA]
 obtain ⟨a',n',c',hv',F,ho⟩:=rowsC_at s _ hk4 (i:=i) (by simpa using hi)
 rw [hv] at hv'
 injection hv' with hv';injection hv' with e1 e2 e3
 subst e1 e2 e3
 simp only [List.getElem_map] at ho
 obtain ⟨g,hg,hc,_⟩:=row_elem ho (fun _ _=>rfl) (by omega) (List.getElem?_eq_getElem hj)
 exact ⟨g,hg,hc 0 _ rfl,hc 1 _ rfl,hc 2 _ rfl⟩

/-- The terminals of a row are put. -/
theorem num_put {l:List ByteArray} {A:Option Addr} {c:Nat} {x2:Value} (hts:x.ts.length+l.length≤50000)
  (s:St G W w (txA tb x D us++[rowC 9 1 A l.length c (l.map Value.string)]))
  (hK:∀w' D',St G W w' (txA tb {x with ts:=l.foldl (fun ts t=>putT ts t 0) x.ts } D' us)→ref04_Text_number.b6 R C3 x2 w') :
  ref04_Text_number.b11 R C3 (.pointer (some ⟨tb,0,none⟩)) x2 (.slice A l.length c) w:=by
 unfold ref04_Text_number.b11
 refine ref04_Text_number.l13_intro _ _ _ _ _ _ _ (fun y w'=>∃(i:Nat) (ts:List (ByteArray×Int)) (D':TD),y = .int .i64 i∧i≤l.length∧ts.length≤x.ts.length+i∧(l.drop i).foldl (fun ts t=>putT ts t 0) ts=l.foldl (fun ts t=>putT ts t 0) x.ts ∧
   St G W w' (txA tb {x with ts:=ts } D' us++[rowC 9 1 A l.length c (l.map Value.string)])) (fun y _=>l.length-iv y)
   ⟨0,x.ts,D,rfl,by omega,by omega,rfl,s⟩ ?_
 rintro _ w1 ⟨i,ts,D',rfl,hi,htl,hg,s1⟩ C13 hC
 unfold ref04_Text_number.b14
 simp -dsimp [go_sem]
 refine SPL_intro (fun p1=>?_) (fun p1=>?_) <;> simp at p1
 ·obtain ⟨g,rfl,cc,_⟩:=s1.rowAt 6 rfl (j:=i) (by simpa using p1)
  simp only [List.getElem_map] at cc
  have wi:IntKind.i64.wrap ((i:Int)+1)=(i:Int)+1:=IntWalk.i64_in _ (by omega)
  rw [List.drop_eq_getElem_cons p1,List.foldl_cons] at hg
  unfold ref04_Text_number.b14_2
  simp -dsimp [go_sem,p1,Nat.not_le.2 p1,cc]
  refine CALL_of (term_ct s1 0 rfl 1 rfl (show ts.length≤_ by omega) l[i]) ?_
  rintro _ w2 ⟨rfl,hc2⟩
  have s2:=s1.old hc2
  have next:∀w' D'',St G W w' (txA tb {x with ts:=putT ts l[i] 0 } D'' us++[rowC 9 1 (some ⟨g,0,none⟩) l.length c (l.map Value.string)])→ref04_Text_number.b15 R C3 C13 (.int .i64 i) w':=fun w' D'' s'=>by
   unfold ref04_Text_number.b15
   simp -dsimp [go_sem,wi]
   refine hC _ _ ⟨i+1,_,D'',by simp,p1,?_,hg,s'⟩ (by simp [iv];omega)
   have:=putT_len ts l[i] 0;omega
  simp -dsimp [go_sem]
  refine SPL_intro (fun h=>?_) (fun h=>?_) <;> simp at h
  ·have hno:=lvT_none.1 (posI_neg.1 h)
   have hb:¬hasB (ts.map (·.1)) l[i]=true:=fun h=>hno (hasB_iff.1 h)
   have y2:=(s2.box 0 rfl).1
   simp [boxAt,txBox] at y2
   obtain ⟨F9,ho9,_⟩:=s2.get (k:=6) rfl
   have cc2:w2.cell? ⟨g,i,none⟩=some (.string l[i]):=by
    obtain ⟨g',hg',hc',_⟩:=row_at ho9 (j:=i) (by simpa using p1)
    injection hg' with hg';injection hg' with hg';subst hg'
    rw [hc'];simp
   obtain ⟨wa,hwa⟩:∃wa,w2.alloc (.cells #[.string l[i],.int .i64 0] 39)=wa:=⟨_,rfl⟩
   have sa:=s2.old (by rw [←hwa];exact (Chg.refl noB w2).alloc _:Chg noB w2 wa)
   have ya:=(sa.box 0 rfl).1.2.2.1
   have ya':wa.cell? ⟨tb,2,none⟩=some (.slice D'.At ts.length D'.ct):=ya
   unfold ref04_Text_number.b14_1
   simp -dsimp [go_sem,y2,p1,Nat.not_le.2 p1,cc2,bTerm1,hwa,ya']
   rw [←hwa]
   refine s2.append1d 1 rfl uTms info_term rfl (by omega) (news:=[.string l[i],.int .i64 0]) rfl (by simp [Value.oneCell']) (show ts.length+1≤_ by unfold maxLen;omega) (show (ts.length+1)*24≤_ by unfold maxBytes;omega) ?_
   intro g2 cap w4 s4
   have y4:=(s4.box 0 rfl).1.2.2.1
   have y4':w4.cell? ⟨tb,2,none⟩=some (.slice D'.At ts.length D'.ct):=y4
   have f4:=(s4.box 0 rfl).2.1 2
   have s5:=s4.set 0 rfl 2 (.slice (some ⟨g2,0,none⟩) (ts.length+1) cap)
   simp -dsimp [go_sem,y4',f4]
   refine next _ {D' with At:=some ⟨g2,0,none⟩,ct:=cap } ?_
   rw [putT_zero,if_neg hb]
   simpa [txA,txBox,termE] using s5
  ·refine next _ D' ?_
   have hb:hasB (ts.map (·.1)) l[i]=true:=hasB_iff.2 (Classical.byContradiction fun h2=>by have:=posI_neg.2 (lvT_none.2 h2);omega)
   rw [putT_zero,if_pos hb]
   exact s2
 ·have hia:i=l.length:=by omega
  subst hia
  rw [List.drop_length] at hg
  have hg':ts=l.foldl (fun ts t=>putT ts t 0) x.ts:=hg
  rw [hg'] at s1
  exact hK _ D' (s1.take 6)

/-- A row's terminals. -/
theorem num_row {k:Nat} {a:Option Addr} {ca:Nat} {x2:Value} (hls:x.ls.length≤10000) (hbw:∀r∈x.rows,r.words.length≤10000) (hk:k<x.rows.length) (hv:us[k]?=some (.slice a x.rows[k].words.length ca)) (hts:x.ts.length≤30001)
  (s:St G W w (txA tb x D us++[boxC q 124 [.string x.rows[k].left,.slice a x.rows[k].words.length ca,.int .i64 x.rows[k].said,.string x.rows[k].by_]]))
  (hK:∀w' D',St G W w' (txA tb {x with ts:=numF x.ls x.ts x.rows[k] } D' us)→ref04_Text_number.b6 R C3 x2 w') :
  ref04_Text_number.b16 R C3 (.pointer (some ⟨tb,0,none⟩)) x2 (.pointer (some ⟨q,0,none⟩)) (.slice none 0 0) w:=by
 have hwl:=hbw _ (List.getElem_mem hk)
 have hxb:x.ls.length≤100000:=by omega
  -- the level's terminal
 have k10:∀w1 A c,∀l:List ByteArray,l=(x.rows[k].words.filter fun w => !isNonX x.ls w).map (·.2.1)→l.length≤10000 →
   St G W w1 (txA tb x D us++[boxC q 124 [.string x.rows[k].left,.slice a x.rows[k].words.length ca,.int .i64 x.rows[k].said,.string x.rows[k].by_],rowC 9 1 A l.length c (l.map Value.string)]) →
   ref04_Text_number.b10 R C3 (.pointer (some ⟨tb,0,none⟩)) x2 (.pointer (some ⟨q,0,none⟩)) (.slice A l.length c) w1:=fun w1 A c l hl hll s1=>by
  have yq:=(s1.box 6 rfl).1
  simp [boxAt] at yq
  have e0:numF x.ls x.ts x.rows[k]=(l++if x.rows[k].said=1 then [x.rows[k].by_] else []).foldl (fun ts t=>putT ts t 0) x.ts:=by unfold numF rowT;rw [←hl]
  unfold ref04_Text_number.b10
  simp -dsimp [go_sem,yq]
  refine SPL_intro (fun h=>?_) (fun h=>?_) <;> simp at h
  ·unfold ref04_Text_number.b10_1
   simp -dsimp [go_sem,yq]
   refine s1.append1 7 rfl uStrs iStr rfl (by omega) (news:=[.string x.rows[k].by_]) rfl (by simp [Value.oneCell']) (by unfold maxLen;omega) (by unfold maxBytes;omega) ?_
   intro g cap w2 s2
   have s3:=s2.pick [0,1,2,3,4,5,7] (L':=txA tb x D us++[rowC 9 1 (some ⟨g,0,none⟩) (l++[x.rows[k].by_]).length cap ((l++[x.rows[k].by_]).map Value.string)]) (by decide) (by simp [txA])
   have:=num_put (x2:=x2) (C3:=C3) (R:=R) (l:=l++[x.rows[k].by_]) (by simp;omega) s3 (fun w' D' s'=>hK w' D' (by rw [e0,if_pos (by omega)];exact s'))
   simpa using this
  ·have s3:=s1.pick [0,1,2,3,4,5,7] (L':=txA tb x D us++[rowC 9 1 A l.length c (l.map Value.string)]) (by decide) rfl
   exact num_put (l:=l) (by omega) s3 (fun w' D' s'=>hK w' D' (by rw [e0,if_neg (by omega),List.append_nil];exact s'))
 unfold ref04_Text_number.b16
 refine ref04_Text_number.l18_intro _ _ _ _ _ _ _ _ (fun z y w'=>∃(j:Nat) (A:Option Addr) (c:Nat) (l:List ByteArray),y = .int .i64 j∧z = .slice A l.length c∧j≤x.rows[k].words.length∧l.length≤j∧l=((x.rows[k].words.take j).filter fun w => !isNonX x.ls w).map (·.2.1) ∧
   St G W w' (txA tb x D us++[boxC q 124 [.string x.rows[k].left,.slice a x.rows[k].words.length ca,.int .i64 x.rows[k].said,.string x.rows[k].by_],rowC 9 1 A l.length c (l.map Value.string)])) (fun _ y _=>x.rows[k].words.length-iv y)
   ⟨0,none,0,[],rfl,rfl,by omega,by simp,by simp,by have:=s.nilRow 9 1;simpa [txA] using this⟩ ?_
 rintro _ _ w1 ⟨j,A,c,l,rfl,rfl,hj,hlj,hl,s1⟩ C18 hC
 have yq:=(s1.box 6 rfl).1
 simp [boxAt] at yq
 unfold ref04_Text_number.b19
 simp -dsimp [go_sem,yq]
 refine SPL_intro (fun h1=>?_) (fun h1=>?_) <;> simp at h1
 ·obtain ⟨g,rfl,d0,d1,d2⟩:=rx_at (L:=[]) (us:=us) (x:=x) (D:=D) (tb:=tb) (s1.take 6) hk hv h1
  have wj:IntKind.i64.wrap ((j:Int)+1)=(j:Int)+1:=IntWalk.i64_in _ (by omega)
  have htk:x.rows[k].words.take (j+1)=x.rows[k].words.take j++[x.rows[k].words[j]]:=List.take_succ_eq_append_getElem h1
  unfold ref04_Text_number.b19_2
  simp -dsimp [go_sem,yq,h1,Nat.not_le.2 h1,d0,d1,d2]
  refine CALL_of (isNon_ct s1 0 rfl 5 rfl hxb x.rows[k].words[j]) ?_
  rintro _ w2 ⟨rfl,hc2⟩
  have s2:=s1.old hc2
  simp -dsimp [go_sem]
  refine SPL_intro (fun h=>?_) (fun h=>?_) <;> simp at h
  ·have yq2:=(s2.box 6 rfl).1
   simp [boxAt] at yq2
   obtain ⟨g',hg',z0,z1,z2⟩:=rx_at (L:=[]) (us:=us) (x:=x) (D:=D) (tb:=tb) (s2.take 6) hk hv h1
   injection hg' with hg';injection hg' with hg';subst hg'
   unfold ref04_Text_number.b19_1
   simp -dsimp [go_sem,yq2,h1,Nat.not_le.2 h1,z0,z1,z2]
   refine s2.append1 7 rfl uStrs iStr rfl (by omega) (news:=[.string x.rows[k].words[j].2.1]) rfl (by simp [Value.oneCell']) (by unfold maxLen;omega) (by unfold maxBytes;omega) ?_
   intro g2 cap w3 s3
   unfold ref04_Text_number.b20
   simp -dsimp [go_sem,wj]
   refine hC _ _ _ ⟨j+1,some ⟨g2,0,none⟩,cap,l++[x.rows[k].words[j].2.1],by simp,by simp,h1,by simp;omega,?_,?_⟩ (by simp [iv];omega)
   ·rw [htk,List.filter_append,List.map_append,←hl];simp [h]
   ·simpa [txA] using s3
  ·unfold ref04_Text_number.b20
   simp -dsimp [go_sem,wj]
   refine hC _ _ _ ⟨j+1,A,c,l,by simp,rfl,h1,by omega,?_,s2⟩ (by simp [iv];omega)
   rw [htk,List.filter_append,List.map_append,←hl];simp [h]
 ·have hja:j=x.rows[k].words.length:=by omega
  subst hja
  rw [List.take_length] at hl
  exact k10 _ A c l hl (by omega) s1

theorem numF_len (ls:List ByteArray) (ts:List (ByteArray×Int)) (r:RowS):(numF ls ts r).length≤ts.length+(r.words.length+1):=by
 have h1:∀(l:List ByteArray) (ts:List (ByteArray×Int)),(l.foldl (fun ts t=>putT ts t 0) ts).length≤ts.length+l.length:=fun l=>by
  induction l with
  | nil=>intro ts;simp
  | cons t l ih=>intro ts;have:=ih (putT ts t 0);have:=putT_len ts t 0;rw [List.foldl_cons,List.length_cons];omega
 have h2:=h1 (rowT ls r) ts
 have h3:(rowT ls r).length≤r.words.length+1:=by
  unfold rowT
  rw [List.length_append,List.length_map]
  have:=List.length_filter_le (fun w => !isNonX ls w) r.words
  split <;> simp <;> omega
 unfold numF;omega

theorem number_ct (hb:NB x) (s:St G W w (txA tb x D us)):Ct Tryd.prog ref04_Text_number.id #[.pointer (some ⟨tb,0,none⟩)] w fun v w'=>v = .tuple #[]∧(numX x).ts.length≤30001∧∃D',St G W w' (txA tb (numX x) D' us):=by
 refine ref04_Text_number.ct fun R hR=>?_
 have hrw:=hb.rows
 have hts:=hb.ts
 unfold ref04_Text_number.run
 simp -dsimp [go_sem]
 refine ref04_Text_number.l3_intro _ _ _ _ (fun y w'=>∃(i:Nat) (ts:List (ByteArray×Int)) (D':TD),y = .int .i64 i∧i≤x.rows.length∧ts.length+((x.rows.drop i).map fun r=>r.words.length+1).sum≤30001∧(x.rows.drop i).foldl (numF x.ls) ts=x.rows.foldl (numF x.ls) x.ts ∧
   St G W w' (txA tb {x with ts:=ts } D' us)) (fun y _=>x.rows.length-iv y)
   ⟨0,x.ts,D,rfl,by omega,by have:=hb.sum;simp at this ⊢;omega,rfl,s⟩ ?_
 rintro _ w1 ⟨i,ts,D',rfl,hi,htl,hg,s1⟩ C3 hC
 have y1:=(s1.box 0 rfl).1
 simp [boxAt,txBox] at y1
 simp -dsimp [go_sem,y1]
 refine SPL_intro (fun p1=>?_) (fun p1=>?_) <;> simp at p1
 ·obtain ⟨g,a,c,hAr,hv,c0,c1,c2,c3⟩:=rf_at (L:=[]) (us:=us) (x:={x with ts:=ts }) (D:=D') (tb:=tb) s1 p1
  have wi:IntKind.i64.wrap ((i:Int)+1)=(i:Int)+1:=IntWalk.i64_in _ (by omega)
  rw [List.drop_eq_getElem_cons p1,List.foldl_cons] at hg
  rw [List.drop_eq_getElem_cons p1,List.map_cons,List.sum_cons] at htl
  have hsum:=numF_len x.ls ts x.rows[i]
  rw [hAr] at y1
  have s2:=s1.alloc #[.string x.rows[i].left,.slice a x.rows[i].words.length c,.int .i64 x.rows[i].said,.string x.rows[i].by_] 124
  unfold ref04_Text_number.b8
  simp -dsimp [go_sem,y1,p1,Nat.not_le.2 p1,c0,c1,c2,c3]
  refine num_row (x:={x with ts:=ts }) (D:=D') (us:=us) (k:=i) hb.ls hb.wl p1 hv (show ts.length≤_ by omega) s2 fun w' D'' s'=>?_
  unfold ref04_Text_number.b6
  simp -dsimp [go_sem,wi]
  exact hC _ _ ⟨i+1,_,D'',by simp,p1,by omega,hg,s'⟩ (by simp [iv];omega)
 ·have hia:i=x.rows.length:=by omega
  subst hia
  rw [List.drop_length] at hg htl
  have hg':ts=x.rows.foldl (numF x.ls) x.ts:=hg
  refine hR _ _ ⟨rfl,?_,D',?_⟩
  ·show (x.rows.foldl (numF x.ls) x.ts).length≤_
   rw [←hg'];simp at htl;omega
  ·have:numX x={x with ts:=ts }:=by unfold numX;rw [hg']
   rw [this];exact s1
end
end Go.Proofs.YtckbgeedlobfaaaDoor

/-
  The document's text: grammar.
-/
namespace Go.Px.Spec
open Go.Px Go.Px.Scan
/-- A terminal's level by its place. -/
def lvAt (ts:List (ByteArray×Int)) (i:Int):Int:=((ts[i.toNat]?).map (·.2)).getD 0
def lev1 (ts:List (ByteArray×Int)) (a:Int) (s:Int):Int:=if s<ts.length then lvAt ts s else a
/-- A row's level. -/
def rlev (ts:List (ByteArray×Int)) (ls:List ByteArray) (r:RowS):Int :=
 if r.said=2 then 0 else if r.said=1 then lvAt ts (posI ts r.by_) else (r.words.map (symX ts ls)).foldl (lev1 ts) 0
def gPr (x:Rx) (r:RowS):Int×List Int×Int:=(nonX x.ts.length x.ls r.left,r.words.map (symX x.ts x.ls),rlev x.ts x.ls r)
def gOf (x:Rx):Gr:=⟨x.ts,x.ls,x.lv,if x.st=noT then x.ts.length else nonX x.ts.length x.ls x.st,x.rows.map (gPr x)⟩
/-- All of it came. -/
structure GK (x:Rx):Prop where
 word:∀r∈x.rows,∀w∈r.words,0≤symX x.ts x.ls w
 by_:∀r∈x.rows,r.said=1→0≤posI x.ts r.by_
theorem posI_lt {ts:List (ByteArray×Int)} {t:ByteArray}:posI ts t<ts.length:=by unfold posI;split <;> omega
theorem nonX_range {n:Nat} {ls:List ByteArray} {t:ByteArray} (h1:n≤100000) (h2:ls.length≤100000) : -1≤nonX n ls t∧nonX n ls t≤300000:=by unfold nonX;split <;> omega
theorem posI_range {ts:List (ByteArray×Int)} {t:ByteArray} (h1:ts.length≤100000) : -1≤posI ts t∧posI ts t≤300000:=by unfold posI;split <;> omega
theorem symX_range {ts:List (ByteArray×Int)} {ls:List ByteArray} {w:Wd} (h1:ts.length≤100000) (h2:ls.length≤100000) : -1≤symX ts ls w∧symX ts ls w≤300000:=by
 unfold symX;split
 ·exact nonX_range h1 h2
 ·exact posI_range h1
end Go.Px.Spec
namespace Go.Proofs.YtckbgeedlobfaaaDoor
open Go.Px Go.Px.Scan Go.Px.Spec Go.RowKit
attribute [-go_sem] Builtin.append_ ref04_Text_grammar.b3 ref04_Text_grammar.b9 ref04_Text_grammar.b15 ref04_Text_grammar.b14_1 ref04_Text_grammar.b14 ref04_Text_grammar.b13_1 ref04_Text_grammar.b13_2 ref04_Text_grammar.b13 ref04_Text_grammar.b20 ref04_Text_grammar.b19_1 ref04_Text_grammar.b19_2 ref04_Text_grammar.b19_3 ref04_Text_grammar.b16 ref04_Text_grammar.b11_1 ref04_Text_grammar.b11 ref04_Text_grammar.b4 ref04_Text_grammar.b1_1 ref04_Text_grammar.b1_2

section
variable {G:Nat→Prop} {W w w1:World} {R:EP} {C6:VP} {tb q pb gb rb:Nat} {x:Rx} {D:TD} {L:List Ch} {us vs:List Value}

/-- The pieces while the grammar is made: the text's, the result, the grammar, its productions. -/
def gmL (tb:Nat) (x:Rx) (D:TD) (us:List Value) (rb gb:Nat) (st:Int) (k:Nat) (Ap:Option Addr) (cp:Nat) (vs:List Value):List Ch :=
 txA tb x D us++[boxC rb 28 zG,boxC gb 28 [.slice D.At x.ts.length D.ct,.slice D.Af x.ls.length D.cf,.slice D.Al x.lv.length D.cl,.int .i64 st,.slice Ap k cp],
  rowC 37 3 Ap k cp ((((x.rows.take k).map (gPr x)).zip vs).flatMap prodE),rowsC 3 1 vs (((x.rows.take k).map (gPr x)).map fun p=>p.2.1.map (.int .i64 ·))]

/-- A production is laid to the grammar's. -/
theorem gm_push {k:Nat} {st:Int} {Ap Ax:Option Addr} {cp cx:Nat} {u4:Ch} (hk:k<x.rows.length) (hkl:x.rows.length≤10000)
  (s:St G W w (gmL tb x D us rb gb st k Ap cp vs++[u4,boxC pb 37 [.int .i64 (gPr x x.rows[k]).1,.slice Ax (gPr x x.rows[k]).2.1.length cx,.int .i64 (gPr x x.rows[k]).2.2],rowC 3 1 Ax (gPr x x.rows[k]).2.1.length cx ((gPr x x.rows[k]).2.1.map (.int .i64 ·))]))
  (hK:∀w' Ap' cp' vs',St G W w' (gmL tb x D us rb gb st (k+1) Ap' cp' vs')→ref04_Text_grammar.b9 R C6 (.int .i64 k) w') :
  ref04_Text_grammar.b15 R C6 (.pointer (some ⟨gb,0,none⟩)) (.int .i64 k) (.pointer (some ⟨pb,0,none⟩)) w:=by
 have yg:=(s.box 7 rfl).1
 have yp:=(s.box 11 rfl).1
 simp [boxAt] at yg yp
 have hvs:vs.length=k:=by
  obtain ⟨F,ho,_⟩:=s.get (k:=9) rfl
  have:=ho.1;simp at this;omega
 unfold ref04_Text_grammar.b15
 simp -dsimp [go_sem,yg,yp]
 have htk:(x.rows.take (k+1)).map (gPr x)=(x.rows.take k).map (gPr x)++[gPr x x.rows[k]]:=by rw [List.take_succ_eq_append_getElem hk,List.map_append];rfl
 have hlen:((x.rows.take k).map (gPr x)).length=vs.length:=by simp [hvs];omega
 generalize gPr x x.rows[k]=p at s htk ⊢
 refine s.append1 8 rfl uProds iProd rfl (by omega) (news:=[.int .i64 p.1,.slice Ax p.2.1.length cx,.int .i64 p.2.2]) rfl (by simp [Value.oneCell']) (by unfold maxLen;omega) (by unfold maxBytes;omega) ?_
 intro g cap w3 s3
 have y3:=(s3.box 7 rfl).1
 have f3:=(s3.box 7 rfl).2.1 4
 simp [boxAt] at y3
 have s4:=s3.set 7 rfl 4 (.slice (some ⟨g,0,none⟩) (k+1) cap)
 simp -dsimp [go_sem,y3,f3]
 have s5:=(s4.merge (j:=12) (k:=9) rfl rfl (by omega) (e:=rowsC 3 1 (vs++[.slice Ax p.2.1.length cx]) ((((x.rows.take k).map (gPr x)).map fun p=>p.2.1.map (.int .i64 ·))++[p.2.1.map (.int .i64 ·)])) fun F F' h1 h2=>rowsC_snoc (size:=1) h1 h2).take 10
 refine hK _ (some ⟨g,0,none⟩) cap (vs++[.slice Ax p.2.1.length cx]) ?_
 have e1:(((x.rows.take (k+1)).map (gPr x)).zip (vs++[.slice Ax p.2.1.length cx])).flatMap prodE=(((x.rows.take k).map (gPr x)).zip vs).flatMap prodE++[.int .i64 p.1,.slice Ax p.2.1.length cx,.int .i64 p.2.2]:=by
  rw [htk,List.zip_append hlen,List.flatMap_append];simp [prodE]
 have e2:(((x.rows.take (k+1)).map (gPr x)).map fun p=>p.2.1.map (Value.int .i64 ·))=(((x.rows.take k).map (gPr x)).map fun p=>p.2.1.map (Value.int .i64 ·))++[p.2.1.map (Value.int .i64 ·)]:=by rw [htk,List.map_append];rfl
 unfold gmL
 rw [e1,e2]
 exact s5

/-- Behind the words: how the level was said. -/
theorem gm_level {k:Nat} {st v:Int} {Ap Ax:Option Addr} {cp cx:Nat} {a:Option Addr} {ca:Nat} (hb:XB x) (gk:GK x) (hk:k<x.rows.length) (hkl:x.rows.length≤10000) (hv:v=((x.rows[k].words.map (symX x.ts x.ls)).foldl (lev1 x.ts) 0))
  (s:St G W w (gmL tb x D us rb gb st k Ap cp vs++[boxC q 124 [.string x.rows[k].left,.slice a x.rows[k].words.length ca,.int .i64 x.rows[k].said,.string x.rows[k].by_],boxC pb 37 [.int .i64 (gPr x x.rows[k]).1,.slice Ax (gPr x x.rows[k]).2.1.length cx,.int .i64 v],rowC 3 1 Ax (gPr x x.rows[k]).2.1.length cx ((gPr x x.rows[k]).2.1.map (.int .i64 ·))]))
  (hK:∀w' Ap' cp' vs',St G W w' (gmL tb x D us rb gb st (k+1) Ap' cp' vs')→ref04_Text_grammar.b9 R C6 (.int .i64 k) w') :
  ref04_Text_grammar.b13 R C6 (.pointer (some ⟨tb,0,none⟩)) (.pointer (some ⟨gb,0,none⟩)) (.int .i64 k) (.pointer (some ⟨q,0,none⟩)) (.pointer (some ⟨pb,0,none⟩)) w:=by
 have yq:=(s.box 10 rfl).1
 have yp:=(s.box 11 rfl).1
 simp [boxAt] at yq yp
  -- %none, and on
 have k14:∀w1 (v1:Int),v1=(if x.rows[k].said=1 then lvAt x.ts (posI x.ts x.rows[k].by_) else v) →
   St G W w1 (gmL tb x D us rb gb st k Ap cp vs++[boxC q 124 [.string x.rows[k].left,.slice a x.rows[k].words.length ca,.int .i64 x.rows[k].said,.string x.rows[k].by_],boxC pb 37 [.int .i64 (gPr x x.rows[k]).1,.slice Ax (gPr x x.rows[k]).2.1.length cx,.int .i64 v1],rowC 3 1 Ax (gPr x x.rows[k]).2.1.length cx ((gPr x x.rows[k]).2.1.map (.int .i64 ·))]) →
   ref04_Text_grammar.b14 R C6 (.pointer (some ⟨gb,0,none⟩)) (.int .i64 k) (.pointer (some ⟨q,0,none⟩)) (.pointer (some ⟨pb,0,none⟩)) w1:=fun w1 v1 hv1 s1=>by
  have yq1:=(s1.box 10 rfl).1
  have yp1:=(s1.box 11 rfl).1
  simp [boxAt] at yq1 yp1
  unfold ref04_Text_grammar.b14
  simp -dsimp [go_sem,yq1]
  refine SPL_intro (fun h=>?_) (fun h=>?_) <;> simp at h
  ·have f2:=(s1.box 11 rfl).2.1 2
   unfold ref04_Text_grammar.b14_1
   simp -dsimp [go_sem,yp1,f2]
   have e:(gPr x x.rows[k]).2.2=0:=by unfold gPr rlev;rw [if_pos (by omega)]
   refine gm_push (st:=st) (Ap:=Ap) (cp:=cp) (vs:=vs) (Ax:=Ax) (cx:=cx) hk hkl (u4:=boxC q 124 [.string x.rows[k].left,.slice a x.rows[k].words.length ca,.int .i64 x.rows[k].said,.string x.rows[k].by_]) ?_ hK
   rw [e]
   exact s1.set 11 rfl 2 (.int .i64 0)
  ·have e:(gPr x x.rows[k]).2.2=v1:=by unfold gPr rlev;rw [if_neg (by omega),hv1,hv]
   refine gm_push (st:=st) (Ap:=Ap) (cp:=cp) (vs:=vs) (Ax:=Ax) (cx:=cx) hk hkl (u4:=boxC q 124 [.string x.rows[k].left,.slice a x.rows[k].words.length ca,.int .i64 x.rows[k].said,.string x.rows[k].by_]) ?_ hK
   rw [e]
   exact s1
 unfold ref04_Text_grammar.b13
 simp -dsimp [go_sem,yq]
 refine SPL_intro (fun h=>?_) (fun h=>?_) <;> simp at h
 ·have hs1:x.rows[k].said=1:=by omega
  have hpos:=gk.by_ _ (List.getElem_mem hk) hs1
  have yt:=(s.box 0 rfl).1
  simp [boxAt,txBox] at yt
  unfold ref04_Text_grammar.b13_2
  simp -dsimp [go_sem,yt,yq]
  have sd:=s.old (Chg.refl noB w).drew
  refine CALL_of (term_ct sd 0 rfl 1 rfl hb.ts x.rows[k].by_) ?_
  rintro _ w2 ⟨rfl,hc2⟩
  have s2:=sd.old hc2
  have yt2:=(s2.box 0 rfl).1
  have yp2:=(s2.box 11 rfl).1
  have f2:=(s2.box 11 rfl).2.1 2
  simp [boxAt,txBox] at yt2 yp2
  obtain ⟨i,hi⟩:∃i:Nat,posI x.ts x.rows[k].by_=(i:Int):=⟨(posI x.ts x.rows[k].by_).toNat,by omega⟩
  have hil:i<x.ts.length:=by have:=posI_lt (ts:=x.ts) (t:=x.rows[k].by_);omega
  obtain ⟨g,hAt,d0,d1,_⟩:=ts_at s2 1 rfl hil
  have hAt':D.At=some ⟨g,0,none⟩:=hAt
  unfold ref04_Text_grammar.b13_1
  rw [hAt'] at yt2 ⊢
  rw [hi]
  simp -dsimp [go_sem,yt2,yp2,f2,hil,Nat.not_le.2 hil,d1]
  refine k14 _ x.ts[i].2 ?_ (s2.set 11 rfl 2 (.int .i64 x.ts[i].2))
  rw [if_pos hs1,hi];simp [lvAt,hil]
 ·exact k14 _ v (by rw [if_neg (by omega)]) s

/-- A row's words. -/
theorem gm_words {k:Nat} {st:Int} {Ap:Option Addr} {cp:Nat} {a:Option Addr} {ca:Nat} (hb:XB x) (gk:GK x) (hk:k<x.rows.length) (hkl:x.rows.length≤10000) (hwl:x.rows[k].words.length≤10000) (hv:us[k]?=some (.slice a x.rows[k].words.length ca))
  (s:St G W w (gmL tb x D us rb gb st k Ap cp vs++[boxC q 124 [.string x.rows[k].left,.slice a x.rows[k].words.length ca,.int .i64 x.rows[k].said,.string x.rows[k].by_],boxC pb 37 [.int .i64 (gPr x x.rows[k]).1,.slice none 0 0,.int .i64 0]]))
  (hK:∀w' Ap' cp' vs',St G W w' (gmL tb x D us rb gb st (k+1) Ap' cp' vs')→ref04_Text_grammar.b9 R C6 (.int .i64 k) w') :
  ref04_Text_grammar.b16 R C6 (.pointer (some ⟨tb,0,none⟩)) (.pointer (some ⟨gb,0,none⟩)) (.int .i64 k) (.pointer (some ⟨q,0,none⟩)) (.pointer (some ⟨pb,0,none⟩)) w:=by
 unfold ref04_Text_grammar.b16
 refine ref04_Text_grammar.l18_intro _ _ _ _ _ _ _ _ _ (fun y w'=>∃(j:Nat) (Ax:Option Addr) (cx:Nat),y = .int .i64 j∧j≤x.rows[k].words.length ∧
   St G W w' (gmL tb x D us rb gb st k Ap cp vs++[boxC q 124 [.string x.rows[k].left,.slice a x.rows[k].words.length ca,.int .i64 x.rows[k].said,.string x.rows[k].by_],boxC pb 37 [.int .i64 (gPr x x.rows[k]).1,.slice Ax j cx,.int .i64 (((x.rows[k].words.take j).map (symX x.ts x.ls)).foldl (lev1 x.ts) 0)],rowC 3 1 Ax j cx (((x.rows[k].words.take j).map (symX x.ts x.ls)).map (Value.int .i64 ·))])) (fun y _=>x.rows[k].words.length-iv y)
   ⟨0,none,0,rfl,by omega,by have:=s.nilRow 3 1;simpa [gmL,txA] using this⟩ ?_
 rintro _ w1 ⟨j,Ax,cx,rfl,hj,s1⟩ C18 hC
 have yq:=(s1.box 10 rfl).1
 simp [boxAt] at yq
 unfold ref04_Text_grammar.b19
 simp -dsimp [go_sem,yq]
 refine SPL_intro (fun h1=>?_) (fun h1=>?_) <;> simp at h1
 ·obtain ⟨g,rfl,d0,d1,d2⟩:=rx_at (L:=[]) (us:=us) (x:=x) (D:=D) (tb:=tb) (s1.take 6) hk hv h1
  have wj:IntKind.i64.wrap ((j:Int)+1)=(j:Int)+1:=IntWalk.i64_in _ (by omega)
  have htk:x.rows[k].words.take (j+1)=x.rows[k].words.take j++[x.rows[k].words[j]]:=List.take_succ_eq_append_getElem h1
  have hpos:=gk.word _ (List.getElem_mem hk) _ (List.getElem_mem h1)
  have hrange:=symX_range (ts:=x.ts) (ls:=x.ls) (w:=x.rows[k].words[j]) hb.ts hb.ls
  unfold ref04_Text_grammar.b19_3
  simp -dsimp [go_sem,yq,h1,Nat.not_le.2 h1,d0,d1,d2]
  refine CALL_of (symbol_ct' (L:=[]) (us:=us) (D:=D) (W:=W) (G:=G) hb (s1.take 6) x.rows[k].words[j]) ?_
  rintro _ w2 ⟨rfl,hc2⟩
  have s2:=s1.old hc2
  have e1:((x.rows[k].words.take (j+1)).map (symX x.ts x.ls)).map (Value.int .i64 ·)=((x.rows[k].words.take j).map (symX x.ts x.ls)).map (Value.int .i64 ·)++[.int .i64 (symX x.ts x.ls x.rows[k].words[j])]:=by rw [htk,List.map_append,List.map_append];rfl
  have e2:((x.rows[k].words.take (j+1)).map (symX x.ts x.ls)).foldl (lev1 x.ts) 0=lev1 x.ts (((x.rows[k].words.take j).map (symX x.ts x.ls)).foldl (lev1 x.ts) 0) (symX x.ts x.ls x.rows[k].words[j]):=by rw [htk,List.map_append,List.foldl_append];rfl
  generalize symX x.ts x.ls x.rows[k].words[j]=v at hpos hrange e1 e2 ⊢
  have yp2:=(s2.box 11 rfl).1
  simp [boxAt] at yp2
  unfold ref04_Text_grammar.b19_2
  simp -dsimp [go_sem,yp2]
  refine s2.append1 12 rfl uInts iInt rfl (by omega) (news:=[.int .i64 v]) rfl (by simp [Value.oneCell']) (by unfold maxLen;omega) (by unfold maxBytes;omega) ?_
  intro g2 cap w3 s3
  have yp3:=(s3.box 11 rfl).1
  have fp3:=(s3.box 11 rfl).2.1 1
  simp [boxAt] at yp3
  have s4:=s3.set 11 rfl 1 (.slice (some ⟨g2,0,none⟩) (j+1) cap)
  have yt4:=(s4.box 0 rfl).1.2.2.1
  have yt4':(w3.setCell ⟨pb,1,none⟩ (.slice (some ⟨g2,0,none⟩) (j+1) cap)).cell? ⟨tb,2,none⟩=some (.slice D.At x.ts.length D.ct):=yt4
  have yt3:w3.cell? ⟨tb,2,none⟩=some (.slice D.At x.ts.length D.ct):=(s3.box 0 rfl).1.2.2.1
  simp -dsimp [go_sem,yp3,fp3,yt3]
  generalize w3.setCell ⟨pb,1,none⟩ (.slice (some ⟨g2,0,none⟩) (j+1) cap)=w4 at s4 yt4' ⊢
  have next:∀w5,St G W w5 (gmL tb x D us rb gb st k Ap cp vs++[boxC q 124 [.string x.rows[k].left,.slice (some ⟨g,0,none⟩) x.rows[k].words.length ca,.int .i64 x.rows[k].said,.string x.rows[k].by_],boxC pb 37 [.int .i64 (gPr x x.rows[k]).1,.slice (some ⟨g2,0,none⟩) (j+1) cap,.int .i64 (lev1 x.ts (((x.rows[k].words.take j).map (symX x.ts x.ls)).foldl (lev1 x.ts) 0) v)],rowC 3 1 (some ⟨g2,0,none⟩) (j+1) cap (((x.rows[k].words.take j).map (symX x.ts x.ls)).map (Value.int .i64 ·)++[.int .i64 v])])→ref04_Text_grammar.b20 R C6 C18 (.int .i64 j) w5:=fun w5 s5=>by
   unfold ref04_Text_grammar.b20
   simp -dsimp [go_sem,wj]
   refine hC _ _ ⟨j+1,some ⟨g2,0,none⟩,cap,by simp,h1,?_⟩ (by simp [iv];omega)
   rw [e1,e2];exact s5
  refine SPL_intro (fun h=>?_) (fun h=>?_) <;> simp at h
  ·obtain ⟨i,rfl⟩:∃i:Nat,v=(i:Int):=⟨v.toNat,by omega⟩
   have hil:i<x.ts.length:=by omega
   obtain ⟨g3,hAt,z0,z1,_⟩:=ts_at s4 1 rfl hil
   have hAt':D.At=some ⟨g3,0,none⟩:=hAt
   have fp4:=(s4.box 11 rfl).2.1 2
   have yp4:=(s4.box 11 rfl).1
   simp [boxAt] at yp4
   rw [hAt'] at yt4'
   unfold ref04_Text_grammar.b19_1
   simp -dsimp [go_sem,yt4',hil,Nat.not_le.2 hil,z1,yp4,fp4]
   refine next _ ?_
   have e3:lev1 x.ts (((x.rows[k].words.take j).map (symX x.ts x.ls)).foldl (lev1 x.ts) 0) (i:Int)=x.ts[i].2:=by
    unfold lev1 lvAt
    rw [if_pos (by omega)]
    simp [hil]
   rw [e3]
   exact s4.set 11 rfl 2 (.int .i64 x.ts[i].2)
  ·refine next _ ?_
   have e3:lev1 x.ts (((x.rows[k].words.take j).map (symX x.ts x.ls)).foldl (lev1 x.ts) 0) v=((x.rows[k].words.take j).map (symX x.ts x.ls)).foldl (lev1 x.ts) 0:=by unfold lev1;rw [if_neg (by omega)]
   rw [e3]
   exact s4
 ·have hja:j=x.rows[k].words.length:=by omega
  subst hja
  rw [List.take_length] at s1
  refine gm_level (v:=(x.rows[k].words.map (symX x.ts x.ls)).foldl (lev1 x.ts) 0) (Ax:=Ax) (cx:=cx) (a:=a) (ca:=ca) (Ap:=Ap) (cp:=cp) (vs:=vs) hb gk hk hkl rfl ?_ hK
  have e:(gPr x x.rows[k]).2.1.length=x.rows[k].words.length:=by simp [gPr]
  rw [e]
  exact s1

theorem bPr0 (x:Int) (w:World):(Instr.build 37 #[(0,.int .i64 x)]).run Tryd.prog w = .ok (.agg #[.int .i64 x,.slice none 0 0,.int .i64 0]) w:=by simp [go_sem]
attribute [go_sem ↓] bPr0

/-- All rows. -/
theorem gm_rows {st:Int} (hb:XB x) (gk:GK x) (nb:∀r∈x.rows,r.words.length≤10000) (hkl:x.rows.length≤10000)
  (s:St G W w (gmL tb x D us rb gb st 0 none 0 []))
  (hK:∀w' Ap cp vs,St G W w' (gmL tb x D us rb gb st x.rows.length Ap cp vs)→ref04_Text_grammar.b3 R (.pointer (some ⟨rb,0,none⟩)) (.pointer (some ⟨gb,0,none⟩)) w') :
  ref04_Text_grammar.b4 R (.pointer (some ⟨tb,0,none⟩)) (.pointer (some ⟨rb,0,none⟩)) (.pointer (some ⟨gb,0,none⟩)) w:=by
 unfold ref04_Text_grammar.b4
 refine ref04_Text_grammar.l6_intro _ _ _ _ _ _ (fun y w'=>∃(k:Nat) (Ap:Option Addr) (cp:Nat) (vs:List Value),y = .int .i64 k∧k≤x.rows.length∧St G W w' (gmL tb x D us rb gb st k Ap cp vs)) (fun y _=>x.rows.length-iv y)
   ⟨0,none,0,[],rfl,by omega,s⟩ ?_
 rintro _ w1 ⟨k,Ap,cp,vs,rfl,hk,s1⟩ C6 hC
 have y1:=(s1.box 0 rfl).1
 simp [boxAt,txBox] at y1
 simp -dsimp [go_sem,y1]
 refine SPL_intro (fun p1=>?_) (fun p1=>?_) <;> simp at p1
 ·obtain ⟨g,a,c,hAr,hv,c0,c1,c2,c3⟩:=rf_at (L:=[]) (us:=us) (x:=x) (D:=D) (tb:=tb) (s1.take 6) p1
  have wk:IntKind.i64.wrap ((k:Int)+1)=(k:Int)+1:=IntWalk.i64_in _ (by omega)
  rw [hAr] at y1
  have s2:=s1.alloc #[.string x.rows[k].left,.slice a x.rows[k].words.length c,.int .i64 x.rows[k].said,.string x.rows[k].by_] 124
  unfold ref04_Text_grammar.b11
  simp -dsimp [go_sem,y1,p1,Nat.not_le.2 p1,c0,c1,c2,c3]
  generalize w1.alloc (.cells #[.string x.rows[k].left,.slice a x.rows[k].words.length c,.int .i64 x.rows[k].said,.string x.rows[k].by_] 124)=w2 at s2 ⊢
  generalize w1.heap.size=q at s2 ⊢
  refine CALL_of (non_ct s2 0 rfl 5 rfl hb.ls hb.ts x.rows[k].left) ?_
  rintro _ w3 ⟨rfl,hc3⟩
  have s3:=s2.old hc3
  have s4:=s3.alloc #[.int .i64 (nonX x.ts.length x.ls x.rows[k].left),.slice none 0 0,.int .i64 0] 37
  unfold ref04_Text_grammar.b11_1
  simp -dsimp [go_sem]
  refine gm_words (st:=st) (Ap:=Ap) (cp:=cp) (vs:=vs) (us:=us) (a:=a) (ca:=c) (G:=G) (W:=W) (D:=D) (rb:=rb) hb gk p1 hkl (nb _ (List.getElem_mem p1)) hv ?_ (fun w' Ap' cp' vs' s'=>?_)
  ·simpa [gmL,txA,gPr] using s4
  ·unfold ref04_Text_grammar.b9
   simp -dsimp [go_sem,wk]
   exact hC _ _ ⟨k+1,Ap',cp',vs',by simp,p1,s'⟩ (by simp [iv];omega)
 ·have hka:k=x.rows.length:=by omega
  subst hka
  exact hK _ Ap cp vs s1
end
end Go.Proofs.YtckbgeedlobfaaaDoor

/-
  The document's Copy of a grammar: it reads as the grammar does.
-/
namespace Go.Px
open Go.RowKit
end Go.Px
namespace Go.Proofs.YtckbgeedlobfaaaDoor
open Go.Px Go.Px.Scan Go.RowKit
attribute [-go_sem] Builtin.append_
attribute [-go_sem] ref02_Copy.b3 ref02_Copy.b7 ref02_Copy.b4

def cTerm (t:ByteArray×Int):List Value:=[.string t.1,.int .i64 t.2]
def cStr (s:ByteArray):List Value:=[.string s]
def cInt (x:Int):List Value:=[.int .i64 x]
def cPr (p:(Int×List Int×Int)×Value):List Value:=[.int .i64 p.1.1,p.2,.int .i64 p.1.2.2]
theorem cInt_flat (l:List Int):l.flatMap cInt=l.map (.int .i64 ·):=flat_one _ _
theorem bProdC (x y:Int) (w:World):(Instr.build 37 #[(0,.int .i64 x),(2,.int .i64 y)]).run Tryd.prog w = .ok (.agg #[.int .i64 x,.slice none 0 0,.int .i64 y]) w:=by simp [go_sem]
theorem bGramC (x:Int) (w:World):(Instr.build 28 #[(3,.int .i64 x)]).run Tryd.prog w = .ok (.agg #[.slice none 0 0,.slice none 0 0,.slice none 0 0,.int .i64 x,.slice none 0 0]) w:=by simp [go_sem]
attribute [go_sem ↓] bProdC bGramC

/-- What a copy's memory is. -/
def CpL (q rb ob:Nat) (g:Gr) (A1:Option Addr) (c1:Nat) (A2:Option Addr) (c2:Nat) (A3:Option Addr) (c3:Nat) (A4:Option Addr) (c4:Nat) (At:Option Addr) (ct:Nat) (An:Option Addr) (cn:Nat) (Al:Option Addr) (cl:Nat) (k:Nat) (Ap:Option Addr) (cp:Nat) (vs:List Value):List Ch :=
 [boxC q 28 [.slice A1 g.terms.length c1,.slice A2 g.nons.length c2,.slice A3 g.levels.length c3,.int .i64 g.start,.slice A4 g.prods.length c4],
   boxC rb 28 [.slice none 0 0,.slice none 0 0,.slice none 0 0,.int .i64 0,.slice none 0 0],
   boxC ob 28 [.slice At g.terms.length ct,.slice An g.nons.length cn,.slice Al g.levels.length cl,.int .i64 g.start,.slice Ap k cp],
   rowC 39 2 At g.terms.length ct (g.terms.flatMap cTerm),rowC 9 1 An g.nons.length cn (g.nons.flatMap cStr),rowC 3 1 Al g.levels.length cl (g.levels.flatMap cInt),
   rowC 37 3 Ap k cp (((g.prods.take k).zip vs).flatMap cPr),rowsC 3 1 vs ((g.prods.take k).map fun p=>p.2.1.flatMap cInt)]

structure GFit (g:Gr):Prop where
 terms:g.terms.length*24≤maxBytes
 nons:g.nons.length*16≤maxBytes
 levels:g.levels.length*8≤maxBytes
 prods:g.prods.length*40≤maxBytes
 right:∀p∈g.prods,p.2.1.length*8≤maxBytes

theorem Copy_ct {w:World} {B:Nat} {vg:Value} {g:Gr} (h:rGram.atN w B vg g) (hB:B≤w.heap.size) (hfit:GFit g):Ct Tryd.prog ref02_Copy.id #[vg] w fun v w'=>GrNew w w' v g:=by
 refine ref02_Copy.ct fun R hR=>?_
 obtain ⟨A1,c1,A2,c2,A3,c3,A4,c4,rfl,h1,h2,h3,hst,h4,k1,k2,k3,k4⟩:=(rGram_open h).ex
 obtain ⟨g1,g2,g3,g4,g5⟩:=hfit
 obtain ⟨q,hq⟩:∃q,w.heap.size=q:=⟨_,rfl⟩
 obtain ⟨rb,hrb⟩:∃rb,(w.alloc (.cells #[.slice A1 g.terms.length c1,.slice A2 g.nons.length c2,.slice A3 g.levels.length c3,.int .i64 g.start,.slice A4 g.prods.length c4] 28)).heap.size=rb:=⟨_,rfl⟩
 obtain ⟨ob,hob⟩:∃ob,((w.alloc (.cells #[.slice A1 g.terms.length c1,.slice A2 g.nons.length c2,.slice A3 g.levels.length c3,.int .i64 g.start,.slice A4 g.prods.length c4] 28)).alloc (.cells #[.slice none 0 0,.slice none 0 0,.slice none 0 0,.int .i64 0,.slice none 0 0] 28)).heap.size=ob:=⟨_,rfl⟩
 have s1:=((St.refl noB w).alloc #[.slice A1 g.terms.length c1,.slice A2 g.nons.length c2,.slice A3 g.levels.length c3,.int .i64 g.start,.slice A4 g.prods.length c4] 28).alloc #[.slice none 0 0,.slice none 0 0,.slice none 0 0,.int .i64 0,.slice none 0 0] 28
 rw [hq] at s1
 have cs:=(s1.box 0 rfl).1.2.2.2.1
 have s2:=(((St.refl noB w).alloc #[.slice A1 g.terms.length c1,.slice A2 g.nons.length c2,.slice A3 g.levels.length c3,.int .i64 g.start,.slice A4 g.prods.length c4] 28).alloc #[.slice none 0 0,.slice none 0 0,.slice none 0 0,.int .i64 0,.slice none 0 0] 28).alloc #[.slice none 0 0,.slice none 0 0,.slice none 0 0,.int .i64 g.start,.slice none 0 0] 28
 rw [hq,hrb,hob] at s2
 unfold ref02_Copy.run
 simp -dsimp [go_sem,hq,hrb,hob,cs]
 generalize ((w.alloc (.cells #[.slice A1 g.terms.length c1,.slice A2 g.nons.length c2,.slice A3 g.levels.length c3,.int .i64 g.start,.slice A4 g.prods.length c4] 28)).alloc (.cells #[.slice none 0 0,.slice none 0 0,.slice none 0 0,.int .i64 0,.slice none 0 0] 28)).alloc (.cells #[.slice none 0 0,.slice none 0 0,.slice none 0 0,.int .i64 g.start,.slice none 0 0] 28)=W3 at s2 ⊢
 clear s1 cs hrb hob
 have y3:=s2.box 2 rfl
 have z3:=s2.box 0 rfl
 simp [boxAt] at y3 z3
 simp -dsimp [go_sem,y3,z3]
 have s3:=((s2.nilRow 39 2).nilRow 9 1).nilRow 3 1
 have rdg:∀w',Chg noB w w'→rGram.atN w' B (.agg #[.slice A1 g.terms.length c1,.slice A2 g.nons.length c2,.slice A3 g.levels.length c3,.int .i64 g.start,.slice A4 g.prods.length c4]) g:=fun w' hc=>rGram_below h (hc.below hB fun _ _=>id)
 have bl:∀{w':World},Chg noB w w'→Below B w w':=fun hc=>hc.below hB fun _ _=>id
 refine s3.appendRd (r:=rTerm) (enc:=cTerm) 3 rfl uTerms iTerm rfl (by decide) (Rep.below h1 (bl s3.chg)) (fun ⟨_,_,e,h2,h3⟩ _=>by obtain ⟨rfl,_⟩:=h2;obtain ⟨rfl,_⟩:=h3;exact e) (fun x _ u hu=>by simp [cTerm] at hu;rcases hu with rfl | rfl <;> rfl) (fun _ _=>rfl) (by omega) (by omega) ?_
 intro At ct w4 s4
 rw [Nat.zero_add] at s4 ⊢
 have y4:=s4.box 2 rfl
 have z4:=s4.box 0 rfl
 simp [boxAt] at y4 z4
 have s5:=s4.set 2 rfl 0 (.slice At g.terms.length ct)
 simp -dsimp [go_sem,y4,z4]
 generalize w4.setCell ⟨ob,0,none⟩ (.slice At g.terms.length ct)=w5 at s5 ⊢
 refine s5.appendRd (r:=rStr) (enc:=cStr) 4 rfl uStrs iStr rfl (by decide) (Rep.below h2 (bl s5.chg)) (fun h _=>h.1) (fun x _ u hu=>by simp [cStr] at hu;rcases hu with rfl | rfl <;> rfl) (fun _ _=>rfl) (by omega) (by omega) ?_
 intro An cn w6 s6
 rw [Nat.zero_add] at s6 ⊢
 have y6:=s6.box 2 rfl
 have z6:=s6.box 0 rfl
 simp [boxAt] at y6 z6
 have s7:=s6.set 2 rfl 1 (.slice An g.nons.length cn)
 have y7:=s7.box 2 rfl
 have z7:=s7.box 0 rfl
 simp [boxAt] at y7 z7
 simp -dsimp [go_sem,y6,z6]
 generalize w6.setCell ⟨ob,1,none⟩ (.slice An g.nons.length cn)=w7 at s7 ⊢
 refine s7.appendRd (r:=rInt) (enc:=cInt) 5 rfl uInts iInt rfl (by decide) (Rep.below h3 (bl s7.chg)) (fun h _=>h.1) (fun x _ u hu=>by simp [cInt] at hu;rcases hu with rfl | rfl <;> rfl) (fun _ _=>rfl) (by omega) (by omega) ?_
 intro Al cl w8 s8
 rw [Nat.zero_add] at s8 ⊢
 have y8:=s8.box 2 rfl
 simp [boxAt] at y8
 have s9:=s8.set 2 rfl 2 (.slice Al g.levels.length cl)
 simp -dsimp [go_sem,y8]
 generalize w8.setCell ⟨ob,2,none⟩ (.slice Al g.levels.length cl)=w9 at s9 ⊢
 have s10:St noB w w9 (CpL q rb ob g A1 c1 A2 c2 A3 c3 A4 c4 At ct An cn Al cl 0 none 0 []):=by
  have h1:=(s9.nilRow 37 3).push (c:=rowsC 3 1 [] []) ⟨rfl,fun i v xs h=>by simp at h⟩
  exact h1
 clear s2 s3 s4 s5 s6 s7 s8 s9 y4 z4 y6 z6 y8 y3 z3
 unfold ref02_Copy.b4
 refine ref02_Copy.l6_intro _ _ _ _ _ _ (fun y w'=>∃(k:Nat) (Ap:Option Addr) (cp:Nat) (vs:List Value),y = .int .i64 k∧k≤g.prods.length∧St noB w w' (CpL q rb ob g A1 c1 A2 c2 A3 c3 A4 c4 At ct An cn Al cl k Ap cp vs)) (fun y _=>g.prods.length-iv y) ⟨0,none,0,[],rfl,Nat.zero_le _,s10⟩ ?_
 rintro _ w10 ⟨k,Ap,cp,vs,rfl,hk,s11⟩ C hC
 have z11:=s11.box 0 rfl
 have y11:=s11.box 2 rfl
 simp [boxAt] at z11 y11
 have hvs:vs.length=k:=by
  obtain ⟨F,ho,_⟩:=s11.get (k:=7) rfl
  have:=ho.1;simp at this;omega
 unfold ref02_Copy.b7
 simp -dsimp [go_sem,z11]
 refine SPL_intro (fun p1=>?_) (fun p1=>?_) <;> simp at p1
 ·obtain ⟨bp,op,vr,ep,hbp,x1,x2,x3,hr,zl,zv⟩:=prods_at (Rep.below h4 (bl s11.chg)) p1
  subst ep
  obtain ⟨Ar,cr,rfl,hr1,hr2,_⟩:=slice_form hr
  have htk:g.prods.take (k+1)=g.prods.take k++[g.prods[k]]:=List.take_succ_eq_append_getElem p1
  have g5':=g5 _ (List.getElem_mem p1)
  have wk:=wrap_succ p1 (by omega)
  have hbp1:bp<w10.heap.size:=by have:=s11.chg.size;omega
  generalize g.prods[k]=p at x1 x2 x3 hr zl zv hr1 hr2 htk g5' ⊢
  obtain ⟨pb,hpb⟩:∃pb,w10.heap.size=pb:=⟨_,rfl⟩
  have hcz:Chg noB w10 (w10.alloc (.cells #[.int .i64 0,.slice none 0 0,.int .i64 0] 37)):=(Chg.refl _ _).alloc _
  have s12:=s11.alloc #[.int .i64 0,.slice none 0 0,.int .i64 0] 37
  rw [hpb] at s12
  have z12:=(s12.box 0 rfl).1.2.2.2.2.1
  have x1z:=(hcz.cell (p:=⟨bp,op+k*3,none⟩) hbp1 id).trans x1
  have x3z:=(hcz.cell (p:=⟨bp,op+k*3+2,none⟩) hbp1 id).trans x3
  have sA:=s11.alloc #[.int .i64 p.1,.slice none 0 0,.int .i64 p.2.2] 37
  have zA:=(sA.box 0 rfl).1.2.2.2.2.1
  have hcA:Chg noB w10 (w10.alloc (.cells #[.int .i64 p.1,.slice none 0 0,.int .i64 p.2.2] 37)):=(Chg.refl _ _).alloc _
  have x2A:=(hcA.cell (p:=⟨bp,op+k*3+1,none⟩) hbp1 id).trans x2
  simp -dsimp [go_sem,z11,p1,x1,x2,x3,hpb,z12,x1z,x3z,zA,x2A]
  have s13:=(s11.alloc #[.int .i64 p.1,.slice none 0 0,.int .i64 p.2.2] 37).old (Chg.refl noB _).drew.drew
  rw [hpb] at s13
  generalize (w10.alloc (.cells #[.int .i64 p.1,.slice none 0 0,.int .i64 p.2.2] 37)).drew.drew=w13 at s13 ⊢
  have s14:=s13.nilRow 3 1
  have hrw:(rSlice rInt).at1 w B (.slice Ar p.2.1.length cr) p.2.1:=(rSlice rInt).keep hr (Nat.le_refl _) fun i hi=>(s11.chg.block i (by omega) id).symm
  refine s14.appendRd (r:=rInt) (enc:=cInt) 9 rfl uInts iInt rfl (by decide) (Rep.below hrw (bl s14.chg)) (fun h _=>h.1) (fun x _ u hu=>by simp [cInt] at hu;rcases hu with rfl | rfl <;> rfl) (fun _ _=>rfl) (by omega) (by omega) ?_
  intro a15 c15 w15 s15
  rw [Nat.zero_add] at s15 ⊢
  have y15:=s15.box 8 rfl
  have o15:=s15.box 2 rfl
  simp [boxAt] at y15 o15
  have s16:=s15.set 8 rfl 1 (.slice a15 p.2.1.length c15)
  have y16:=s16.box 8 rfl
  have o16:=s16.box 2 rfl
  simp [boxAt] at y16 o16
  simp -dsimp [go_sem,y15,y16,o16]
  have hsz16:(w15.setCell ⟨pb,1,none⟩ (.slice a15 p.2.1.length c15)).heap.size=w15.heap.size:=by simp
  rw [←hsz16]
  generalize w15.setCell ⟨pb,1,none⟩ (.slice a15 p.2.1.length c15)=w16 at s16 ⊢
  refine s16.append1 6 rfl uProds iProd rfl (by omega) (news:=[.int .i64 p.1,.slice a15 p.2.1.length c15,.int .i64 p.2.2]) rfl (by simp [Value.oneCell']) (by omega) (by omega) ?_
  intro g' cap w17 s17
  have y17:=s17.box 2 rfl
  simp [boxAt] at y17
  have s18:=s17.set 2 rfl 4 (.slice (some ⟨g',0,none⟩) (k+1) cap)
  simp -dsimp [go_sem,y17,wk]
  have s19:=s18.merge (j:=9) (k:=7) rfl rfl (by omega) (e:=rowsC 3 1 (vs++[.slice a15 p.2.1.length c15]) (((g.prods.take k).map fun p=>p.2.1.flatMap cInt)++[p.2.1.flatMap cInt])) fun F F' h1 h2=>rowsC_snoc (size:=1) h1 h2
  have e2:(((g.prods.take (k+1)).zip (vs++[.slice a15 p.2.1.length c15])).flatMap cPr)=(((g.prods.take k).zip vs).flatMap cPr)++[.int .i64 p.1,.slice a15 p.2.1.length c15,.int .i64 p.2.2]:=by
   rw [htk,List.zip_append (by simp [hvs];omega),List.flatMap_append]
   simp [cPr]
  have e3:((g.prods.take (k+1)).map fun p=>p.2.1.flatMap cInt)=((g.prods.take k).map fun p=>p.2.1.flatMap cInt)++[p.2.1.flatMap cInt]:=by rw [htk,List.map_append];rfl
  refine hC _ _ ⟨k+1,some ⟨g',0,none⟩,cap,vs++[.slice a15 p.2.1.length c15],by simp,by omega,?_⟩ (by simp [iv];omega)
  have:=s19.take 8
  rw [←e2,←e3] at this
  exact this
 ·have hkl:k=g.prods.length:=by omega
  subst hkl
  unfold ref02_Copy.b3
  have y2:=s11.box 1 rfl
  simp [boxAt] at y2
  have s12:=((((s11.set 1 rfl 0 (.slice At g.terms.length ct)).set 1 rfl 1 (.slice An g.nons.length cn)).set 1 rfl 2 (.slice Al g.levels.length cl)).set 1 rfl 3 (.int .i64 g.start)).set 1 rfl 4 (.slice Ap g.prods.length cp)
  have y12:=s12.box 1 rfl
  simp [boxAt] at y12
  simp -dsimp [go_sem,y11,y2,y12]
  refine hR _ _ ?_
  generalize (((((w10.setCell ⟨rb,0,none⟩ (.slice At g.terms.length ct)).setCell ⟨rb,1,none⟩ (.slice An g.nons.length cn)).setCell ⟨rb,2,none⟩ (.slice Al g.levels.length cl)).setCell ⟨rb,3,none⟩ (.int .i64 g.start)).setCell ⟨rb,4,none⟩ (.slice Ap g.prods.length cp))=w12 at s12 ⊢
  have tz:∀i (hi:i<g.terms.length),g.terms[i].1.size≤maxLen∧inI64 g.terms[i].2:=fun i hi=>by obtain ⟨_,_,_,_,_,_,q1,q2⟩:=terms_at h1 hi;exact ⟨q1,q2⟩
  have nz:∀i (hi:i<g.nons.length),g.nons[i].size≤maxLen:=fun i hi=>by obtain ⟨_,_,_,_,_,q1⟩:=Go.Px.strs_at h2 hi;exact q1
  have lz:∀i (hi:i<g.levels.length),inI64 g.levels[i]:=fun i hi=>by obtain ⟨_,_,_,_,_,q1⟩:=Go.Px.ints_at h3 hi;exact q1
  have s13:=s12.pick [3,4,5,6,7] (L':=[rowC 39 2 At g.terms.length ct (g.terms.flatMap cTerm),rowC 9 1 An g.nons.length cn (g.nons.flatMap cStr),rowC 3 1 Al g.levels.length cl (g.levels.flatMap cInt),
   rowC 37 3 Ap g.prods.length cp (((g.prods.take g.prods.length).zip vs).flatMap cPr),rowsC 3 1 vs ((g.prods.take g.prods.length).map fun p=>p.2.1.flatMap cInt)]) (by decide) rfl
  have e1:g.nons.flatMap cStr=g.nons.map Value.string:=flat_one _ _
  have e2:(fun p:Int×List Int×Int=>p.2.1.flatMap cInt)=fun p=>p.2.1.map (fun x=>Value.int .i64 x):=by funext p;exact cInt_flat _
  rw [List.take_length,e1,cInt_flat,e2] at s13
  refine ⟨At,ct,An,cn,Al,cl,Ap,cp,vs,rfl,s13,fun x hx=>?_,fun x hx=>?_,fun x hx=>?_,hst,fun x hx=>?_⟩
  ·obtain ⟨i,hi,rfl⟩:=List.getElem_of_mem hx;exact tz i hi
  ·obtain ⟨i,hi,rfl⟩:=List.getElem_of_mem hx;exact nz i hi
  ·obtain ⟨i,hi,rfl⟩:=List.getElem_of_mem hx;exact lz i hi
  ·obtain ⟨i,hi,rfl⟩:=List.getElem_of_mem hx
   obtain ⟨_,_,_,_,_,_,_,_,hr,zl,zv⟩:=prods_at h4 hi
   refine ⟨zl,fun x hx=>?_,zv⟩
   obtain ⟨j,hj,rfl⟩:=List.getElem_of_mem hx
   obtain ⟨A5,c5,e5,_⟩:=slice_form hr
   rw [e5] at hr
   obtain ⟨_,_,_,_,_,q1⟩:=Go.Px.ints_at hr hj
   exact q1
end Go.Proofs.YtckbgeedlobfaaaDoor

/-
  The maker: rows.
-/
namespace Go.Proofs.YtckbgeedlobfaaaDoor
open Go.Px Go.Px.Scan Go.Px.Spec Go.RowKit
attribute [-go_sem] Builtin.append_ spec_maker_all.b4 spec_maker_all.b4_1 spec_maker_all.b4_2 spec_maker_all.b10 spec_maker_all.b15 spec_maker_all.b15_1 spec_maker_all.b14 spec_maker_all.b14_1 spec_maker_all.b14_2 spec_maker_all.b14_3 spec_maker_all.b14_4 spec_maker_all.b14_5 spec_maker_all.b14_6 spec_maker_all.b14_7 spec_maker_all.b14_8 spec_maker_all.b19 spec_maker_all.b19_1 spec_maker_all.b19_2 spec_maker_all.b16 spec_maker_all.b12 spec_maker_all.b12_1

section
variable {G:Nat→Prop} {W w:World} {R:EP} {C7:VP} {bm bb b p n q:Nat} {S:BS} {lv:Int→Int} {A Al:Option Addr} {c cl:Nat} {ws:List Wd} {e:Int} {i:Nat} {hs:List (Nat×List ByteArray)} {st:ByteArray} {ls:List ByteArray} {rs:List RowS} {D:RD} {l:List Int} {x84:Value} {bx:Ch}

theorem row_none {k:Nat} {u0 u1 u2:Value} {h:Int} {said:Nat} (hh:inI64 h)
  (s:St G W w (mkL bm bb b S (.map (some p)) n lv A c ws e i hs st ls rs D++[boxC q 112 [u0,u1,u2,.bool (decide (said=2))]]))
  (hK:∀w',St G W w' (mkL bm bb b (if said=2 then (gradeA S 0 [h]).2 else S) (.map (some p)) n lv A c ws e i hs st ls rs D)→spec_maker_all.b10 R C7 x84 w') :
  spec_maker_all.b15 R C7 (.pointer (some ⟨bm,0,none⟩)) (.pointer (some ⟨q,0,none⟩)) (.int .i64 h) x84 w:=by
 have yq:=(s.box 11 rfl).1
 have ym:=(s.box 0 rfl).1
 simp [boxAt] at yq ym
 unfold spec_maker_all.b15
 simp -dsimp [go_sem,yq]
 refine SPL_intro (fun h1=>?_) (fun h1=>?_) <;> simp at h1
 ·have s1:=s.lit 3 1 1 #[.int .i64 h] (by simp [maxLen]) rfl
  unfold spec_maker_all.b15_1
  simp -dsimp [go_sem,ym]
  refine CALL_Grade s1 1 rfl (by simp [inI64]) (Apart.row (j:=12) (l:=[h]) rfl (by omega) fun x hx=>by rw [List.mem_singleton.1 hx];exact hh) fun w2 s2=>?_
  refine hK _ ?_
  rw [if_pos h1]
  exact s2.take 11
 ·refine hK _ ?_
  rw [if_neg h1]
  exact s.take 11

theorem row_prec {u0 u1 u3:Value} {h:Int} {t:ByteArray} (hh:inI64 h) (ht:t.size≤maxLen) (hlv:∀t,0≤lv t∧lv t≤65)
  (s:St G W w (mkL bm bb b S (.map (some p)) n lv A c ws e i hs st ls rs D++[boxC q 112 [u0,u1,.string t,u3]]))
  (hK:∀S' w',precF lv (h,S) t = .ok S'→St G W w' (mkL bm bb b S' (.map (some p)) n lv A c ws e i hs st ls rs D++[boxC q 112 [u0,u1,.string t,u3]])→spec_maker_all.b15 R C7 (.pointer (some ⟨bm,0,none⟩)) (.pointer (some ⟨q,0,none⟩)) (.int .i64 h) x84 w')
  (hX:∀e,precF lv (h,S) t = .error e→∀w',Chg G W w'→R (.panicked (errP e)) w') :
  spec_maker_all.b14_7 R C7 (.pointer (some ⟨bm,0,none⟩)) (.map (some p)) (.pointer (some ⟨q,0,none⟩)) x84 (.int .i64 h) w:=by
 have yq:=(s.box 11 rfl).1
 have ym:=(s.box 0 rfl).1
 simp [boxAt] at yq ym
 unfold spec_maker_all.b14_7
 simp -dsimp [go_sem,yq]
 refine SPL_intro (fun h1=>?_) (fun h1=>?_) <;> simp at h1
 ·have hne:t≠noT:=fun e=>h1 (noT_list.2 e)
  have hp:precF lv (h,S) t=(do let r ←en (termA S t);pure (gradeA r.2 (lv r.1) [h]).2):=by unfold precF;rw [if_neg hne]
  have ha:∀x∈[h],inI64 x:=fun x hx=>by rw [List.mem_singleton.1 hx];exact hh
  have sd:=s.old (Chg.refl noB w).drew
  obtain ⟨ok,_⟩:=bld_ok s 1 rfl
  have hr:=termA_range ok t
    -- behind the error's test: the level is looked up, the production is graded
  have fin:∀w1 cc g,(termA S t).2.1=0→St G W w1 (mkL bm bb b (termA S t).2.2 (.map (some p)) n lv A c ws e i hs st ls rs D++[boxC q 112 [u0,u1,.string t,u3],rowC 3 1 (some ⟨g,0,none⟩) 1 cc [.int .i64 h]]) →
    CALL Tryd.prog (pan R) gram_Builder_Grade.id #[.pointer (some ⟨bb,0,none⟩),.int .i64 (lv (termA S t).1),.slice (some ⟨g,0,none⟩) 1 cc] w1 fun _ w2=>spec_maker_all.b15 R C7 (.pointer (some ⟨bm,0,none⟩)) (.pointer (some ⟨q,0,none⟩)) (.int .i64 h) x84 w2:=fun w1 cc g he s1=>by
   refine CALL_Grade s1 1 rfl (by have:=hlv (termA S t).1;unfold inI64;omega) (Apart.row (j:=12) (l:=[h]) rfl (by omega) ha) fun w2 s2=>?_
   refine hK _ _ ?_ (s2.take 12)
   rw [hp,en_yes he];rfl
  have fX:∀w1,(termA S t).2.1≠0→Chg G W w1→R (.panicked (errP (termA S t).2.1)) w1:=fun w1 he hc=>hX _ (by rw [hp,en_no he];rfl) _ hc
  unfold spec_maker_all.b14_6
  simp -dsimp [go_sem,yq,ym]
  refine ⟨?_,?_⟩
  ·refine CALL_Term sd 1 rfl ht fun w2 s2=>?_
   have ym2:=(s2.box 0 rfl).1
   simp [boxAt] at ym2
   have lk:(Instr.lookup 104 (.map (some p)) (.int .i64 (termA S t).1) false).run Tryd.prog w2 = .ok (.int .i64 (lv (termA S t).1)) w2:=s2.mapGet mInt 2 rfl (termA S t).1 (show inI64 _ by unfold inI64;omega)
   unfold spec_maker_all.b14_3
   have s3:=s2.lit 3 1 1 #[.int .i64 h] (by simp [maxLen]) rfl
   obtain ⟨w3,hw3⟩:∃w3,w2.alloc (.cells #[.int .i64 h] 3)=w3:=⟨_,rfl⟩
   rw [hw3] at s3
   have ym3:=(s3.box 0 rfl).1.1
   have lk3:(Instr.lookup 104 (.map (some p)) (.int .i64 (termA S t).1) false).run Tryd.prog w3 = .ok (.int .i64 (lv (termA S t).1)) w3:=s3.mapGet mInt 2 rfl (termA S t).1 (show inI64 _ by unfold inI64;omega)
   simp -dsimp [go_sem,ym2,hw3,ym3]
   refine ⟨?_,?_⟩
   ·refine CALL_enough (fun he=>?_) (fun he=>fX _ he s2.chg)
    unfold spec_maker_all.b14_1
    simp -dsimp [go_sem,ym2,lk,hw3,ym3,lk3]
    exact fin _ _ _ he s3
   ·refine CALL_enough (fun he=>?_) (fun he=>fX _ he s3.chg)
    unfold spec_maker_all.b14_2
    simp -dsimp [go_sem,ym3,lk3]
    exact fin _ _ _ he s3
  ·have s3:=s.lit 3 1 1 #[.int .i64 h] (by simp [maxLen]) rfl
   obtain ⟨w3,hw3⟩:∃w3,w.alloc (.cells #[.int .i64 h] 3)=w3:=⟨_,rfl⟩
   rw [hw3] at s3 ⊢
   have ym3:=(s3.box 0 rfl).1.1
   have yq3:w3.cell? ⟨q,2,none⟩=some (.string t):=(s3.box 11 rfl).1.2.2.1
   simp -dsimp [go_sem,ym3,yq3]
   refine CALL_Term (s3.old (Chg.refl noB w3).drew) 1 rfl ht fun w4 s4=>?_
   have ym4:=(s4.box 0 rfl).1.1
   have lk4:(Instr.lookup 104 (.map (some p)) (.int .i64 (termA S t).1) false).run Tryd.prog w4 = .ok (.int .i64 (lv (termA S t).1)) w4:=s4.mapGet mInt 2 rfl (termA S t).1 (show inI64 _ by unfold inI64;omega)
   unfold spec_maker_all.b14_5
   simp -dsimp [go_sem,ym4]
   refine CALL_enough (fun he=>?_) (fun he=>fX _ he s4.chg)
   unfold spec_maker_all.b14_4
   simp -dsimp [go_sem,ym4,lk4]
   exact fin _ _ _ he s4
 ·have hne:t=noT:=noT_list.1 h1
  exact hK S _ (by unfold precF;rw [if_pos hne];rfl) s

theorem symM_range {S S':BS} {x:Wd} {h:Int} (ok:BSok S) (he:symM ls S x = .ok (h,S')) : -65≤h∧h≤65:=by
 unfold symM at he
 have h1:=termA_range ok x.2.1
 have h2:=nonA_range ok x.2.1
 split at he
 ·have:=(en_ok he).2;injection this with e1 _;omega
 ·have:=(en_ok he).2;injection this with e1 _;omega

/-- The words of a row; the rule. -/
theorem row_words {k:Nat} {a:Option Addr} {ca:Nat} {left:Int} (hk:k<rs.length) (mb:MB hs rs st) (hlv:∀t,0≤lv t∧lv t≤65) (hv:D.us[k]?=some (.slice a rs[k].words.length ca)) (hleft:inI64 left)
  (s:St G W w (mkL bm bb b S (.map (some p)) n lv A c ws e i hs st ls rs D++[boxC q 112 [.string rs[k].left,.slice a rs[k].words.length ca,.string rs[k].by_,.bool (decide (rs[k].said=2))]]))
  {T:Except Int BS} (hT:T=(do let z ←rs[k].words.foldlM (symF ls) ([],S);let n ←en (ruleA z.2 left z.1);endF lv rs[k].by_ rs[k].said n))
  (hK:∀S' w',T = .ok S'→St G W w' (mkL bm bb b S' (.map (some p)) n lv A c ws e i hs st ls rs D)→spec_maker_all.b10 R C7 x84 w')
  (hX:∀e,T = .error e→∀w',Chg G W w'→R (.panicked (errP e)) w') :
  spec_maker_all.b16 R C7 (.pointer (some ⟨bm,0,none⟩)) (.map (some p)) (.pointer (some ⟨q,0,none⟩)) (.int .i64 left) (.slice none 0 0) x84 w:=by
 have hwl:=mb.wl _ (List.getElem_mem hk)
 have yq:=(s.box 11 rfl).1
 simp [boxAt] at yq
 unfold spec_maker_all.b16
 simp -dsimp [go_sem,yq]
 refine spec_maker_all.l18_intro _ _ _ _ _ _ _ _ _ _ _ _ (fun x y w'=>∃(j:Nat) (Al:Option Addr) (cl:Nat) (l:List Int) (S1:BS),y = .int .i64 j∧x = .slice Al l.length cl∧j≤rs[k].words.length∧l.length=j∧(∀h∈l,inI64 h) ∧
   T=(do let z ←(rs[k].words.drop j).foldlM (symF ls) (l,S1);let n ←en (ruleA z.2 left z.1);endF lv rs[k].by_ rs[k].said n) ∧
   St G W w' (mkL bm bb b S1 (.map (some p)) n lv A c ws e i hs st ls rs D++[boxC q 112 [.string rs[k].left,.slice a rs[k].words.length ca,.string rs[k].by_,.bool (decide (rs[k].said=2))],rowC 3 1 Al l.length cl (l.map (Value.int .i64 ·))])) (fun _ y _=>rs[k].words.length-iv y)
   ⟨0,none,0,[],S,rfl,rfl,by omega,rfl,by simp,hT,by have:=s.nilRow 3 1;simpa [mkL] using this⟩ ?_
 rintro _ _ w1 ⟨j,Al,cl,l,S1,rfl,rfl,hj,hlj,hl,hg,s1⟩ C18 hC
 unfold spec_maker_all.b19
 simp -dsimp [go_sem]
 refine SPL_intro (fun h1=>?_) (fun h1=>?_) <;> simp at h1
 ·obtain ⟨g,rfl,c0,c1,c2⟩:=wx_at s1 10 rfl hk hv h1
  have wj:IntKind.i64.wrap ((j:Int)+1)=(j:Int)+1:=IntWalk.i64_in _ (by omega)
  obtain ⟨ok,_⟩:=bld_ok s1 1 rfl
  rw [List.drop_eq_getElem_cons h1,List.foldlM_cons] at hg
  have hx:=mb.wx _ (List.getElem_mem hk) _ (List.getElem_mem h1)
  generalize hxe:rs[k].words[j]=x at c0 c1 c2 hg hx
  have hc2:Chg noB w1 (w1.alloc (.cells #[.int .i64 x.1,.string x.2.1,.int .i64 x.2.2] 91)):=(Chg.refl noB w1).alloc _
  have ht:=new3 (w:=w1) x
  unfold spec_maker_all.b19_2
  simp -dsimp [go_sem,h1,Nat.not_le.2 h1,c0,c1,c2]
  generalize w1.alloc (.cells #[.int .i64 x.1,.string x.2.1,.int .i64 x.2.2] 91)=w2 at hc2 ht ⊢
  generalize w1.heap.size=q9 at ht ⊢
  have d0:=ht.c0
  have d1:=ht.c1
  have d2:=ht.c2
  have s2:=s1.old hc2
  refine CALL_ofE (symbol_ct (x:=x) s2 0 rfl 1 rfl 3 rfl 8 rfl hx) ?_
  rintro r w3 (⟨⟨hd,S2⟩,he,rfl,s3⟩ | ⟨e',he,rfl,hc⟩)
  ·have hr:=symM_range ok he
   have hg2:T=(do let z ←(rs[k].words.drop (j+1)).foldlM (symF ls) (l++[hd],S2);let n ←en (ruleA z.2 left z.1);endF lv rs[k].by_ rs[k].said n):=by rw [hg,symF,he];rfl
   show spec_maker_all.b19_1 R C18 (.slice Al l.length cl) (.int .i64 j) (.int .i64 hd) w3
   unfold spec_maker_all.b19_1
   simp -dsimp [go_sem]
   refine s3.append1 12 rfl uInts iInt rfl (by omega) (news:=[.int .i64 hd]) rfl (by simp [Value.oneCell']) (by unfold maxLen;omega) (by unfold maxBytes;omega) ?_
   intro g' cap w4 s4
   simp -dsimp [go_sem,wj]
   refine hC _ _ _ ⟨j+1,some ⟨g',0,none⟩,cap,l++[hd],S2,by simp,by simp,h1,by simp [hlj],fun h hh=>?_,hg2,?_⟩ (by simp [iv];omega)
   ·rcases List.mem_append.1 hh with hh | hh
    ·exact hl h hh
    ·rw [List.mem_singleton.1 hh];unfold inI64;omega
   ·simpa [mkL,rdL] using s4
  ·exact hX e' (by rw [hg,symF,he];rfl) _ hc
 ·have hja:j=rs[k].words.length:=by omega
  rw [hja,List.drop_length] at hg
  have hg':T=(do let n ←en (ruleA S1 left l);endF lv rs[k].by_ rs[k].said n):=hg
  have ym:=(s1.box 0 rfl).1
  simp [boxAt] at ym
  obtain ⟨ok,_⟩:=bld_ok s1 1 rfl
  have hr:=ruleA_range ok left l
  unfold spec_maker_all.b14
  simp -dsimp [go_sem,ym]
  refine CALL_Rule s1 1 rfl hleft (ints_own s1 12 rfl hl) (by unfold maxBytes;omega) fun w2 s2=>?_
  unfold spec_maker_all.b14_8
  simp -dsimp [go_sem]
  refine CALL_enough (fun h2=>?_) (fun h2=>hX _ (by rw [hg',en_no h2];rfl) _ s2.chg)
  rw [en_yes h2] at hg'
  have s3:=s2.take 12
  refine row_prec (S:=(ruleA S1 left l).2.2) (by unfold inI64;omega) (mb.by_ _ (List.getElem_mem hk)) hlv s3 (fun S' w4 he s4=>?_) (fun e' he w4 hc=>hX e' (by rw [hg'];show endF lv _ _ _=_;unfold endF;rw [he];rfl) w4 hc)
  refine row_none (k:=k) (by unfold inI64;omega) s4 fun w5 s5=>hK _ w5 ?_ s5
  rw [hg'];show endF lv _ _ _=_;unfold endF;rw [he];rfl
end
end Go.Proofs.YtckbgeedlobfaaaDoor

/-
  The maker: all.
-/
namespace Go.Proofs.YtckbgeedlobfaaaDoor
open Go.Px Go.Px.Scan Go.Px.Spec Go.RowKit
attribute [-go_sem] Builtin.append_ spec_maker_all.b4 spec_maker_all.b4_1 spec_maker_all.b4_2 spec_maker_all.b10 spec_maker_all.b16 spec_maker_all.b12 spec_maker_all.b12_1 spec_maker_all.b5 spec_maker_all.b20

section
variable {G:Nat→Prop} {W w:World} {R:EP} {C7:VP} {bm bb b p n q:Nat} {S:BS} {lv:Int→Int} {A Al:Option Addr} {c cl:Nat} {ws:List Wd} {e:Int} {i:Nat} {hs:List (Nat×List ByteArray)} {st:ByteArray} {ls:List ByteArray} {rs:List RowS} {D:RD} {l:List Int} {x84:Value} {bx:Ch}

theorem start_run {T:Except Int BS} (mb:MB hs rs st) (hT:T=startF st S)
  (s:St G W w (mkL bm bb b S (.map (some p)) n lv A c ws e i hs st ls rs D))
  (hK:∀S' w',T = .ok S'→St G W w' (mkL bm bb b S' (.map (some p)) n lv A c ws e i hs st ls rs D)→R (.returned (.tuple #[])) w')
  (hX:∀e,T = .error e→∀w',Chg G W w'→R (.panicked (errP e)) w') :
  spec_maker_all.b4 R (.pointer (some ⟨bm,0,none⟩)) w:=by
 have ym:=(s.box 0 rfl).1
 have yr:=(s.box 3 rfl).1
 simp [boxAt,rdBox] at ym yr
 unfold spec_maker_all.b4
 simp -dsimp [go_sem,ym,yr]
 refine SPL_intro (fun h1=>?_) (fun h1=>?_) <;> simp at h1
 ·have hne:st≠noT:=fun e=>h1 (noT_list.2 e)
  have hp:T=(do let h ←en (nonA S st);pure (if isN h.2 h.1 then {h.2 with start:=h.1 } else h.2)):=by rw [hT];unfold startF;rw [if_neg hne]
  obtain ⟨ok,_⟩:=bld_ok s 1 rfl
  have hr:=nonA_range ok st
  unfold spec_maker_all.b4_2
  simp -dsimp [go_sem,ym,yr]
  refine CALL_Non (s.old (Chg.refl noB w).drew) 1 rfl mb.sx fun w2 s2=>?_
  have ym2:=(s2.box 0 rfl).1.1
  unfold spec_maker_all.b4_1
  simp -dsimp [go_sem,ym2]
  refine CALL_enough (fun h2=>?_) (fun h2=>hX _ (by rw [hp,en_no h2];rfl) _ s2.chg)
  rw [en_yes h2] at hp
  simp -dsimp [go_sem,ym2]
  refine CALL_Start s2 1 rfl (by unfold inI64;omega) fun w3 s3=>?_
  exact hK _ _ hp s3
 ·have hne:st=noT:=noT_list.1 h1
  exact hK S _ (by rw [hT];unfold startF;rw [if_pos hne];rfl) s

theorem rows_run {T:Except Int BS} (mb:MB hs rs st) (hT:T=rs.foldlM (rowF ls lv) S >>= startF st) (hlv:∀t,0≤lv t∧lv t≤65)
  (s:St G W w (mkL bm bb b S (.map (some p)) n lv A c ws e i hs st ls rs D))
  (hK:∀S' w',T = .ok S'→St G W w' (mkL bm bb b S' (.map (some p)) n lv A c ws e i hs st ls rs D)→R (.returned (.tuple #[])) w')
  (hX:∀e,T = .error e→∀w',Chg G W w'→R (.panicked (errP e)) w') :
  spec_maker_all.b5 R (.pointer (some ⟨bm,0,none⟩)) (.map (some p)) w:=by
 have hrl:=mb.rl
 have ym:=(s.box 0 rfl).1
 have yr:=(s.box 3 rfl).1
 simp [boxAt,rdBox] at ym yr
 unfold spec_maker_all.b5
 simp -dsimp [go_sem,ym,yr]
 refine spec_maker_all.l7_intro _ _ _ _ _ _ _ (fun y w'=>∃(k:Nat) (S':BS),y = .int .i64 k∧k≤rs.length∧T=(rs.drop k).foldlM (rowF ls lv) S' >>= startF st ∧
   St G W w' (mkL bm bb b S' (.map (some p)) n lv A c ws e i hs st ls rs D)) (fun y _=>rs.length-iv y)
   ⟨0,S,rfl,by omega,hT,s⟩ ?_
 rintro _ w1 ⟨k,S',rfl,hk,hg,s1⟩ C7 hC
 unfold spec_maker_all.b8
 simp -dsimp [go_sem]
 refine SPL_intro (fun h1=>?_) (fun h1=>?_) <;> simp at h1
 ·obtain ⟨g,a,ca,hah,hv,c0,c1,c2,c3⟩:=rw_at s1 9 rfl 10 rfl h1
  rw [List.drop_eq_getElem_cons h1,List.foldlM_cons] at hg
  have wk:IntKind.i64.wrap ((k:Int)+1)=(k:Int)+1:=IntWalk.i64_in _ (by omega)
  have s2:=s1.alloc #[.string rs[k].left,.slice a rs[k].words.length ca,.string rs[k].by_,.bool (decide (rs[k].said=2))] 112
  have ym2:=(s2.box 0 rfl).1.1
  have yq2:=(s2.box 11 rfl).1.1
  rw [hah]
  unfold spec_maker_all.b12
  simp -dsimp [go_sem,h1,Nat.not_le.2 h1,c0,c1,c2,c3]
  generalize w1.alloc (.cells #[.string rs[k].left,.slice a rs[k].words.length ca,.string rs[k].by_,.bool (decide (rs[k].said=2))] 112)=w2 at s2 ym2 yq2 ⊢
  generalize w1.heap.size=q9 at s2 yq2 ⊢
  simp -dsimp [go_sem,ym2,yq2]
  obtain ⟨ok,_⟩:=bld_ok s2 1 rfl
  have hr:=nonA_range ok rs[k].left
  refine CALL_Non (s2.old (Chg.refl noB w2).drew) 1 rfl (mb.left _ (List.getElem_mem h1)) fun w3 s3=>?_
  unfold spec_maker_all.b12_1
  simp -dsimp [go_sem]
  refine CALL_enough (fun h2=>?_) (fun h2=>hX _ (by rw [hg,rowF,en_no h2];rfl) _ s3.chg)
  refine row_words (S:=(nonA S' rs[k].left).2.2) (T:=rowF ls lv S' rs[k]) h1 mb hlv hv (by unfold inI64;omega) s3 (by rw [rowF,en_yes h2];rfl) (fun S2 w4 he s4=>?_) (fun e' he w4 hc=>hX e' (by rw [hg,he];rfl) w4 hc)
  unfold spec_maker_all.b10
  simp -dsimp [go_sem,wk]
  exact hC _ _ ⟨k+1,S2,by simp,h1,by rw [hg,he];rfl,s4⟩ (by simp [iv];omega)
 ·have hka:k=rs.length:=by omega
  rw [hka,List.drop_length] at hg
  exact start_run mb hg s1 hK hX

theorem all_ct (mb:MB hs rs st) (hD:Rb ws i hs ls rs D)
  (s:St G W w ([boxC bm 64 [.pointer (some ⟨bb,0,none⟩),.pointer (some ⟨b,0,none⟩)],bldC bb S0]++rdL b A c ws e i hs st ls rs D)) :
  CtE Tryd.prog spec_maker_all.id #[.pointer (some ⟨bm,0,none⟩)] w (MEnd G W (allM hs ls rs st) (fun _ => .tuple #[]) fun S' w'=>St G W w' [boxC bm 64 [.pointer (some ⟨bb,0,none⟩),.pointer (some ⟨b,0,none⟩)],bldC bb S']):=by
 refine CtE.intro spec_maker_all.enters fun R hR=>spec_maker_all.calls R _ w ?_
 unfold spec_maker_all.run
 have s1:=(s.map Tryd.prog kInt 3 3).pick [0,1,10,2,3,4,5,6,7,8,9] (L':=mkL bm bb b S0 (.map (some w.heap.size)) 0 (fun _=>0) A c ws e i hs st ls rs D) (by decide) rfl
 simp -dsimp [go_sem,mkInt]
 generalize w.alloc (.map #[] 0)=w1 at s1 ⊢
 generalize w.heap.size=p at s1 ⊢
 refine heads_run mb (T:=allM hs ls rs st) (rest:=fun a=>rs.foldlM (rowF ls a.1) a.2 >>= startF st) rfl (fun _=>rfl) rfl s1 (fun lv' S' w' n' hg hlv s2=>?_) (fun e' he w' hc=>hR _ _ (.inr ⟨e',he,rfl,hc⟩))
 exact rows_run mb hg hlv s2 (fun S2 w3 he s3=>hR _ _ (.inl ⟨S2,he,rfl,s3.take 2⟩)) (fun e' he w' hc=>hR _ _ (.inr ⟨e',he,rfl,hc⟩))
end
end Go.Proofs.YtckbgeedlobfaaaDoor

/-
  Read: its pieces.
-/
namespace Go.Proofs.YtckbgeedlobfaaaDoor
open Go.Px Go.Px.Scan Go.Px.Spec Go.RowKit
attribute [-go_sem] Builtin.append_

def gz:Gr:=⟨[],[],[],0,[]⟩
theorem GrNew.zero' {w w':World} (hc:Chg noB w w'):GrNew w w' (.agg zG.toArray) gz:=by
 refine ⟨none,0,none,0,none,0,none,0,[],rfl,?_,by simp [gz],by simp [gz],by simp [gz],by simp [gz,inI64],by simp [gz]⟩
 have h:=((((St.refl noB w).old hc).nilRow 39 2).nilRow 9 1).nilRow 3 1
 exact (h.nilRow 37 3).push (c:=rowsC 3 1 [] []) ⟨rfl,fun i v xs hv=>by simp at hv⟩

/-- What Read tells: a grammar, the code, the place. -/
noncomputable def readG (s:ByteArray):Gr×Int×Int :=
 if 0≤badS s then (gz,10,badS s)
 else match allM (goM m0 (wordsS s).1).1.heads (goM m0 (wordsS s).1).1.lefts (goM m0 (wordsS s).1).1.rows (goM m0 (wordsS s).1).1.start with
  | .error e=>(gz,e,0)
  | .ok S=>if toldB S=true then (gramOf S,0,0) else (gz,1,0)
theorem readG_bad {s:ByteArray} (h:0≤badS s):readG s=(gz,10,badS s):=if_pos h
theorem readG_err {s:ByteArray} {m:Mc} {x:Int} (h:¬0≤badS s) (hg:goM m0 (wordsS s).1=(m,[])) (hm:allM m.heads m.lefts m.rows m.start = .error x):readG s=(gz,x,0):=by
 unfold readG;rw [if_neg h,hg];simp only [hm]
theorem readG_ok {s:ByteArray} {m:Mc} {S:BS} (h:¬0≤badS s) (hg:goM m0 (wordsS s).1=(m,[])) (hm:allM m.heads m.lefts m.rows m.start = .ok S):readG s=if toldB S=true then (gramOf S,0,0) else (gz,1,0):=by
 unfold readG;rw [if_neg h,hg];simp only [hm]

/-- What Read hands back. -/
def RdAns (s:ByteArray) (w:World) (v:Value) (w':World):Prop :=
 ∃vg,v = .tuple #[vg,mishV (readG s).2.1 (readG s).2.2]∧GrNew w w' vg (readG s).1

section
variable {w w1:World} {R:EP} {q2 q3:Nat}
def zM:List Value:=[.int .i64 0,.int .i64 0,.slice none 0 0]

theorem rqA_run {s:ByteArray} (hR:∀w' q2 q3,St noB w w' [boxC q2 28 zG,boxC q3 31 zM]→R (.returned (.tuple #[.string s,.pointer (some ⟨q2,0,none⟩),.pointer (some ⟨q3,0,none⟩)])) w'):RqA.b1 R (.string s) w:=by
 unfold RqA.b1
 have s1:=(St.refl noB w).alloc zG.toArray 28
 have s2:=s1.alloc zM.toArray 31
 simp -dsimp [go_sem]
 simp [zG,zM] at s2
 exact hR _ _ _ s2

theorem bM2 (c a:Int) (w:World):(Instr.build 31 #[(0,.int .i64 c),(1,.int .i64 a)]).run Tryd.prog w = .ok (mishV c a) w:=by simp [go_sem,mishV]
theorem bM1 (c:Int) (w:World):(Instr.build 31 #[(0,.int .i64 c)]).run Tryd.prog w = .ok (mishV c 0) w:=by simp [go_sem,mishV]
theorem bG0 (w:World):(Instr.build 28 #[]).run Tryd.prog w = .ok (.agg zG.toArray) w:=by simp [go_sem,zG]
attribute [go_sem ↓] bM2 bM1 bG0

/-- The results, set. -/
theorem storeG {G:Nat→Prop} {W:World} {L:List Ch} {k:Nat} {g:List Value} {A1 A2 A3 A4:Option Addr} {n1 n2 n3 n4 c1 c2 c3 c4:Nat} {x:Int} (s:St G W w1 L) (hk:L[k]?=some (boxC q2 28 g)) (hg:g.length=5) :
  ∃w2,(Instr.storeAt 28 (.pointer (some ⟨q2,0,none⟩)) (.agg #[.slice A1 n1 c1,.slice A2 n2 c2,.slice A3 n3 c3,.int .i64 x,.slice A4 n4 c4])).run Tryd.prog w1 = .ok () w2 ∧
   St G W w2 (L.set k (boxC q2 28 [.slice A1 n1 c1,.slice A2 n2 c2,.slice A3 n3 c3,.int .i64 x,.slice A4 n4 c4])):=by
 obtain ⟨y,yf,yb⟩:=s.box k hk
 match g,hg with
 | [g0,g1,g2,g3,g4],_ =>
 simp [boxAt] at y
 have f0:=yf 0
 have f1:=yf 1
 have f2:=yf 2
 have f3:=yf 3
 have f4:=yf 4
 have hl:=(List.getElem?_eq_some_iff.1 hk).1
 have e:=fun (c:Ch)=>List.getElem?_set_self (a:=c) hl
 have s1:=s.set k hk 0 (.slice A1 n1 c1)
 have s2:=s1.set k (e _) 1 (.slice A2 n2 c2)
 have s3:=s2.set k (by rw [List.set_set];exact e _) 2 (.slice A3 n3 c3)
 have s4:=s3.set k (by simp only [List.set_set];exact e _) 3 (.int .i64 x)
 have s5:=s4.set k (by simp only [List.set_set];exact e _) 4 (.slice A4 n4 c4)
 simp only [List.set_set] at s5
 refine ⟨_,?_,s5⟩
 simp -dsimp [go_sem,y,f0,f1,f2,f3,f4,World.cell?_setCell_other]

theorem storeM {G:Nat→Prop} {W:World} {L:List Ch} {k:Nat} {g:List Value} {c a:Int} (s:St G W w1 L) (hk:L[k]?=some (boxC q3 31 g)) (hg:g.length=3) :
  ∃w2,(Instr.storeAt 31 (.pointer (some ⟨q3,0,none⟩)) (mishV c a)).run Tryd.prog w1 = .ok () w2∧St G W w2 (L.set k (boxC q3 31 [.int .i64 c,.int .i64 a,.slice none 0 0])):=by
 obtain ⟨y,yf,yb⟩:=s.box k hk
 match g,hg with
 | [g0,g1,g2],_ =>
 simp [boxAt] at y
 have f0:=yf 0
 have f1:=yf 1
 have f2:=yf 2
 have hl:=(List.getElem?_eq_some_iff.1 hk).1
 have e:=fun (c:Ch)=>List.getElem?_set_self (a:=c) hl
 have s1:=s.set k hk 0 (.int .i64 c)
 have s2:=s1.set k (e _) 1 (.int .i64 a)
 have s3:=s2.set k (by rw [List.set_set];exact e _) 2 (.slice none 0 0)
 simp only [List.set_set] at s3
 refine ⟨_,?_,s3⟩
 simp -dsimp [go_sem,mishV,y,f0,f1,f2,World.cell?_setCell_other]

theorem loadG {G:Nat→Prop} {W:World} {L:List Ch} {k:Nat} {g0 g1 g2 g3 g4:Value} (s:St G W w1 L) (hk:L[k]?=some (boxC q2 28 [g0,g1,g2,g3,g4])) :
  (Instr.loadAt 28 (.pointer (some ⟨q2,0,none⟩))).run Tryd.prog w1 = .ok (.agg #[g0,g1,g2,g3,g4]) w1:=by
 obtain ⟨y,yf,yb⟩:=s.box k hk
 simp [boxAt] at y
 simp -dsimp [go_sem,y]

/-- The results as they are read in the end. -/
theorem Read_res {G:Nat→Prop} {W:World} {L:List Ch} {k2 k3:Nat} {g0 g1 g2 g3 g4 m0 m1 m2:Value} {tm:Array Value} (h2:tm.getD 2 undef = .pointer (some ⟨q2,0,none⟩)) (h3:tm.getD 3 undef = .pointer (some ⟨q3,0,none⟩)) (s:St G W w1 L) (hk2:L[k2]?=some (boxC q2 28 [g0,g1,g2,g3,g4])) (hk3:L[k3]?=some (boxC q3 31 [m0,m1,m2])) :
  (results Tryd.f12 tm).run Tryd.prog w1 = .ok (.tuple #[.agg #[g0,g1,g2,g3,g4],.agg #[m0,m1,m2]]) w1:=by
 obtain ⟨y,yf,yb⟩:=s.box k2 hk2
 obtain ⟨z,zf,zb⟩:=s.box k3 hk3
 simp [boxAt] at y z
 have hr:Tryd.f12.results=#[.cell 2 28,.cell 3 31]:=rfl
 rw [Array.getD_eq_getD_getElem?] at h2 h3
 simp [results,hr,go_sem,asAddr,h2,h3,y,z]
end
end Go.Proofs.YtckbgeedlobfaaaDoor

/-
  Read: what its pieces do.
-/
namespace Go.Proofs.YtckbgeedlobfaaaDoor
open Go.Px Go.Px.Scan Go.Px.Spec Go.RowKit
attribute [-go_sem] Builtin.append_

section
variable {w w1:World} {R:EP} {q2 q3:Nat}

/-- The results, as they lie in the end. -/
def FinR (w w1:World) (q2 q3:Nat) (g:Gr) (code at':Int):Prop :=
 ∃A1 c1 A2 c2 A3 c3 A4 c4 vs,St noB w w1 [rowC 39 2 A1 g.terms.length c1 (g.terms.flatMap termE),rowC 9 1 A2 g.nons.length c2 (g.nons.map Value.string),rowC 3 1 A3 g.levels.length c3 (g.levels.map (.int .i64 ·)),
   rowC 37 3 A4 g.prods.length c4 ((g.prods.zip vs).flatMap prodE),rowsC 3 1 vs (g.prods.map fun p=>p.2.1.map (.int .i64 ·)),
   boxC q2 28 [.slice A1 g.terms.length c1,.slice A2 g.nons.length c2,.slice A3 g.levels.length c3,.int .i64 g.start,.slice A4 g.prods.length c4],boxC q3 31 [.int .i64 code,.int .i64 at',.slice none 0 0]] ∧
  (∀t∈g.terms,t.1.size≤maxLen∧inI64 t.2)∧(∀s∈g.nons,s.size≤maxLen)∧(∀x∈g.levels,inI64 x)∧inI64 g.start∧∀p∈g.prods,inI64 p.1∧(∀x∈p.2.1,inI64 x)∧inI64 p.2.2

theorem FinR.ans {g:Gr} {code at':Int} (h:FinR w w1 q2 q3 g code at') {tm:Array Value} (h2:tm.getD 2 undef = .pointer (some ⟨q2,0,none⟩)) (h3:tm.getD 3 undef = .pointer (some ⟨q3,0,none⟩)) :
  ∃vg,(results Tryd.f12 tm).run Tryd.prog w1 = .ok (.tuple #[vg,mishV code at']) w1∧GrNew w w1 vg g:=by
 obtain ⟨A1,c1,A2,c2,A3,c3,A4,c4,vs,s,hb⟩:=h
 exact ⟨_,Read_res h2 h3 s (k2:=5) (k3:=6) rfl rfl,A1,c1,A2,c2,A3,c3,A4,c4,vs,rfl,s.take 5,hb⟩

theorem FinR.zero {c a:Int} (s:St noB w w1 [boxC q2 28 zG,boxC q3 31 [.int .i64 c,.int .i64 a,.slice none 0 0]]):FinR w w1 q2 q3 gz c a:=by
 refine ⟨none,0,none,0,none,0,none,0,[],?_,by simp [gz],by simp [gz],by simp [gz],by simp [gz,inI64],by simp [gz]⟩
 exact (((((s.nilRow 39 2).nilRow 9 1).nilRow 3 1).nilRow 37 3).push (c:=rowsC 3 1 [] []) ⟨rfl,fun i v xs hv=>by simp at hv⟩).pick [2,3,4,5,6,0,1] (by decide) rfl

theorem rqC_run {a:Int} {v4:Value} (s:St noB w w1 [boxC q2 28 zG,boxC q3 31 zM])
  (hB:0≤a→∀w',FinR w w' q2 q3 gz 10 a→R (.returned (.agg #[.pointer (some ⟨q2,0,none⟩),.pointer (some ⟨q3,0,none⟩)])) w')
  (hK:¬0≤a→R (.returned (.tuple #[.pointer (some ⟨q2,0,none⟩),.pointer (some ⟨q3,0,none⟩),v4,.int .i64 a])) w1) :
  RqC.b1 R (.pointer (some ⟨q2,0,none⟩)) (.pointer (some ⟨q3,0,none⟩)) v4 (.int .i64 a) w1:=by
 unfold RqC.b1
 simp -dsimp [go_sem]
 refine SPL_intro (fun h=>?_) (fun h=>?_) <;> simp at h
 ·obtain ⟨w2,r2,s2⟩:=storeG (A1:=none) (A2:=none) (A3:=none) (A4:=none) (n1:=0) (n2:=0) (n3:=0) (n4:=0) (c1:=0) (c2:=0) (c3:=0) (c4:=0) (x:=0) s (k:=0) rfl rfl
  obtain ⟨w3,r3,s3⟩:=storeM (c:=10) (a:=a) s2 (k:=1) rfl rfl
  have r2':(Instr.storeAt 28 (.pointer (some ⟨q2,0,none⟩)) (.agg zG.toArray)).run Tryd.prog w1 = .ok () w2:=r2
  unfold RqC.b1_1
  rw [RUN_eq,bG0,RES_ok,RUN_eq,bM2,RES_ok,RUNU_eq,r2',RESU_ok,RUNU_eq,r3,RESU_ok]
  exact hB h _ (FinR.zero s3)
 ·exact hK (by omega)

theorem bMk (x y:Addr) (w:World):(Instr.build 64 #[(0,.pointer (some x)),(1,.pointer (some y))]).run Tryd.prog w = .ok (.agg #[.pointer (some x),.pointer (some y)]) w:=by simp [go_sem]
attribute [go_sem ↓] bMk

theorem rqD_run {G:Nat→Prop} {W:World} {L:List Ch} {b:Nat} {v2 v3:Value} (s:St G W w1 L)
  (hK:∀w' bb bm,St G W w' (L++[bldC bb S0]++[boxC bm 64 [.pointer (some ⟨bb,0,none⟩),.pointer (some ⟨b,0,none⟩)]])→R (.returned (.tuple #[v2,v3,.pointer (some ⟨bm,0,none⟩)])) w') :
  RqD.b1 R v2 v3 (.pointer (some ⟨b,0,none⟩)) w1:=by
 unfold RqD.b1
 refine CALL_New s fun w2 bb s2=>?_
 have s3:=s2.alloc #[.pointer (some ⟨bb,0,none⟩),.pointer (some ⟨b,0,none⟩)] 64
 unfold RqD.b1_1
 simp -dsimp [go_sem]
 exact hK _ _ _ s3

theorem xt0 (x y:Value) (w:World):(Instr.extract (.tuple #[x,y]) 0).run Tryd.prog w = .ok x w:=by simp [go_sem]
theorem xt1 (x y:Value) (w:World):(Instr.extract (.tuple #[x,y]) 1).run Tryd.prog w = .ok y w:=by simp [go_sem]

theorem rqE_run {S:BS} {bm bb b:Nat} (s:St noB w w1 [boxC q2 28 zG,boxC q3 31 zM,boxC bm 64 [.pointer (some ⟨bb,0,none⟩),.pointer (some ⟨b,0,none⟩)],bldC bb S])
  (hK:∀w',FinR w w' q2 q3 (if toldB S=true then gramOf S else gz) (if toldB S=true then 0 else 1) 0→R (.returned (.agg #[.pointer (some ⟨q2,0,none⟩),.pointer (some ⟨q3,0,none⟩)])) w') :
  RqE.b1 R (.pointer (some ⟨q2,0,none⟩)) (.pointer (some ⟨q3,0,none⟩)) (.pointer (some ⟨bm,0,none⟩)) w1:=by
 have ym:=(s.box 2 rfl).1
 simp [boxAt] at ym
 unfold RqE.b1
 simp -dsimp [go_sem,ym]
 refine CALL_Grammar s 3 rfl fun v w2 ok wf s2 hA=>?_
  -- a grammar, and the code
 have key:∀(g:Gr) (e:Int) A1 c1 A2 c2 A3 c3 A4 c4 (L:List Ch),St noB w w2 ([boxC q2 28 zG,boxC q3 31 zM]++L)→v = .tuple #[.agg #[.slice A1 g.terms.length c1,.slice A2 g.nons.length c2,.slice A3 g.levels.length c3,.int .i64 g.start,.slice A4 g.prods.length c4],.int .i64 e] →
   (∀w',St noB w w' ([boxC q2 28 [.slice A1 g.terms.length c1,.slice A2 g.nons.length c2,.slice A3 g.levels.length c3,.int .i64 g.start,.slice A4 g.prods.length c4],boxC q3 31 [.int .i64 e,.int .i64 0,.slice none 0 0]]++L)→FinR w w' q2 q3 g e 0) →
   g=(if toldB S=true then gramOf S else gz)→e=(if toldB S=true then 0 else 1)→RqE.b1_1 R (.pointer (some ⟨q2,0,none⟩)) (.pointer (some ⟨q3,0,none⟩)) v w2:=by
  rintro g e A1 c1 A2 c2 A3 c3 A4 c4 L s3 rfl hF hg he
  obtain ⟨w3,r3,s4⟩:=storeG (A1:=A1) (A2:=A2) (A3:=A3) (A4:=A4) (n1:=g.terms.length) (n2:=g.nons.length) (n3:=g.levels.length) (n4:=g.prods.length) (c1:=c1) (c2:=c2) (c3:=c3) (c4:=c4) (x:=g.start) s3 (k:=0) rfl rfl
  have l3:=loadG s4 (k:=0) rfl
  obtain ⟨w4,r4,s5⟩:=storeG (A1:=A1) (A2:=A2) (A3:=A3) (A4:=A4) (n1:=g.terms.length) (n2:=g.nons.length) (n3:=g.levels.length) (n4:=g.prods.length) (c1:=c1) (c2:=c2) (c3:=c3) (c4:=c4) (x:=g.start) s4 (k:=0) rfl rfl
  obtain ⟨w5,r5,s6⟩:=storeM (c:=e) (a:=0) s5 (k:=1) rfl rfl
  unfold RqE.b1_1
  rw [RUN_eq,xt0,RES_ok,RUN_eq,xt1,RES_ok,RUNU_eq,r3,RESU_ok,RUN_eq,l3,RES_ok,RUN_eq,bM1,RES_ok,RUNU_eq,r4,RESU_ok,RUNU_eq,r5,RESU_ok]
  have:=hF w5 s6
  rw [hg,he] at this
  exact hK w5 this
 cases ht:toldB S with
 | true =>
  obtain ⟨vg,hv,A1,c1,A2,c2,A3,c3,A4,c4,vs,rfl,s3,hb⟩:=hA.2.1 ht
  refine key (gramOf S) 0 A1 c1 A2 c2 A3 c3 A4 c4 [rowC 39 2 A1 (gramOf S).terms.length c1 ((gramOf S).terms.flatMap termE),rowC 9 1 A2 (gramOf S).nons.length c2 ((gramOf S).nons.map Value.string),rowC 3 1 A3 (gramOf S).levels.length c3 ((gramOf S).levels.map (.int .i64 ·)),
   rowC 37 3 A4 (gramOf S).prods.length c4 (((gramOf S).prods.zip vs).flatMap prodE),rowsC 3 1 vs ((gramOf S).prods.map fun p=>p.2.1.map (.int .i64 ·))] ((s.seq s3).pick [0,1,4,5,6,7,8] (by decide) rfl) hv (fun w' s'=>?_) (by rw [ht];rfl) (by rw [ht];rfl)
  exact ⟨A1,c1,A2,c2,A3,c3,A4,c4,vs,s'.pick [2,3,4,5,6,0,1] (by decide) rfl,hb⟩
 | false =>
  have hv:=hA.2.2 ht
  refine key gz 1 none 0 none 0 none 0 none 0 [] (s2.take 2) hv (fun w' s'=>FinR.zero s') (by rw [ht];rfl) (by rw [ht];rfl)
end
end Go.Proofs.YtckbgeedlobfaaaDoor
