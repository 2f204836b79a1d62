/-
  Texts of this claim: Le1, Le2, Lf2, Lf3, Lq1, Lq2, Lq3, Lq4, Lq5, Lr1.
-/
import Derived.Test.YtckbgeedlobfaaaDoorY26
set_option maxHeartbeats 1000000
set_option linter.unusedSimpArgs false
set_option linter.unusedVariables false
set_option maxRecDepth 100000
/-
  SpecLong; a word as it is written.
-/
namespace Go.Proofs.YtckbgeedlobfaaaDoor
open Go.Px Go.Px.Scan Go.Px.Spec Go.RowKit

theorem addS (o1 o2:Operand) {a b:ByteArray} (h:a.size+b.size≤maxLen) (w:World):(bins .add 9 o1 o2 (.string a) (.string b)).run Tryd.prog w = .ok (.string (a++b)) w:=by
 have:¬9223372036854775807<a.size+b.size:=by unfold maxLen at h;omega
 simp -dsimp [go_sem,this]

attribute [-go_sem] Builtin.append_ law04_written.b1_1 law04_written.b1_2

theorem written_ct {w:World} {x:Wd} (hx:x.2.1.size≤100):Ct Tryd.prog law04_written.id #[wdV x] w fun v w'=>v = .string (wr x)∧Chg noB w w':=by
 refine law04_written.ct fun R hR=>?_
 unfold law04_written.run
 rw [show wdV x = .agg #[.int .i64 x.1,.string x.2.1,.int .i64 x.2.2] from rfl]
 have s1:=(St.refl noB w).alloc #[.int .i64 x.1,.string x.2.1,.int .i64 x.2.2] 46
 simp -dsimp [go_sem]
 generalize w.alloc (.cells _ 46)=w1 at s1 ⊢
 have k0:=(s1.box 0 rfl).1
 simp [boxAt] at k0
 refine SPL_intro (fun h=>?_) (fun h=>?_) <;> simp at h
 ·unfold law04_written.b1_1
  have e1:¬9223372036854775807<1+x.2.1.size:=by omega
  have e2:¬9223372036854775807<1+x.2.1.size+1:=by omega
  have z1:(⟨#[39]⟩:ByteArray).size=1:=rfl
  simp -dsimp [go_sem,k0,e1,e2,z1,ByteArray.size_append]
  refine hR _ _ ⟨?_,s1.chg⟩
  unfold wr quo;rw [if_pos h]
 ·unfold law04_written.b1_2
  simp -dsimp [go_sem,k0]
  refine hR _ _ ⟨?_,s1.chg⟩
  unfold wr;rw [if_neg h]

end Go.Proofs.YtckbgeedlobfaaaDoor

/-
  SpecBegins; the document's words, in pieces.
-/
namespace Go.Proofs.YtckbgeedlobfaaaDoor
open Go.Px Go.Px.Scan Go.Px.Spec Go.RowKit
attribute [-go_sem] Builtin.append_

theorem refAll_ct {s:ByteArray} (hs:s.size≤maxLen) (w:World):Ct Tryd.prog ref03_All.id #[.string s] w fun v w' =>
  ∃A c,v = .tuple #[.slice A (wordsS s).1.length c,badV (wordsS s).2]∧St noB w w' [rowC 46 3 A (wordsS s).1.length c ((wordsS s).1.flatMap encW)] :=
 (ref_All_ct hs w).mono fun v w' ⟨⟨sl,e,hrow⟩,hc⟩=>by
  obtain ⟨Aw,cw,rfl⟩:∃A c,sl = .slice A (wordsS s).1.length c:=by
   rcases hrow.2 with ⟨rfl,h0⟩ | ⟨g,cap,cur,rfl,_⟩
   ·exact ⟨none,0,by rw [h0]⟩
   ·exact ⟨_,_,rfl⟩
  exact ⟨Aw,cw,e,St.ofRow hrow hc⟩

/-- A word of a row of words. -/
theorem word_at {G:Nat→Prop} {W w:World} {L:List Ch} {k:Nat} {A:Option Addr} {n c:Nat} {l:List Wd} (s:St G W w L) (hk:L[k]?=some (rowC 46 3 A n c (l.flatMap encW))) {i:Nat} (hi:i<l.length) :
  n=l.length∧∃g,A=some ⟨g,0,none⟩∧w.cell? ⟨g,i*3,none⟩=some (.int .i64 l[i].1)∧w.cell? ⟨g,i*3+1,none⟩=some (.string l[i].2.1)∧w.cell? ⟨g,i*3+2,none⟩=some (.int .i64 l[i].2.2):=by
 obtain ⟨F,ho,_⟩:=s.get hk
 have hn:=(row_size ho).1
 have hfl:∀l:List Wd,(l.flatMap encW).length=l.length*3:=fun l=>by
  induction l with
  | nil=>rfl
  | cons x l ih=>rw [List.flatMap_cons,List.length_append,ih,List.length_cons];show 3+_=_;omega
 rw [hfl] at hn
 obtain ⟨g,hg,hc,_⟩:=row_elem ho (fun _ _=>rfl) (by omega) (List.getElem?_eq_getElem hi)
 exact ⟨by omega,g,hg,hc 0 _ rfl,hc 1 _ rfl,hc 2 _ rfl⟩

theorem word_sz {s:ByteArray} {x:Wd} (hx:x∈(wordsS s).1):x.2.1.size≤16:=by
 have h:=words_wp s x hx
 obtain ⟨h1,h2,h3,h4,h5,_⟩:=h
 rcases h5 with h5 | h5 | h5 | h5
 ·exact (h1 h5).2.1
 ·exact (h2 h5).2.1
 ·have:=h3 h5
  unfold whole at this
  rw [List.any_eq_true] at this
  obtain ⟨o,ho,e⟩:=this
  have e':o=x.2.1:=toList_inj.1 (by simpa using e:x.2.1.toList=o.toList).symm
  rw [←e']
  revert ho
  have:∀o∈ordersL,o.size≤16:=by decide
  exact this o
 ·have:=(h4 h5).1;omega

end Go.Proofs.YtckbgeedlobfaaaDoor

/-
  SpecSpread: gaps.
-/
namespace Go.Proofs.YtckbgeedlobfaaaDoor
open Go.Px Go.Px.Scan Go.Px.Spec Go.RowKit
attribute [-go_sem] Builtin.append_

end Go.Proofs.YtckbgeedlobfaaaDoor

/-
  SpecSpread.
-/
namespace Go.Px.Scan
open Go.Px
end Go.Px.Scan
namespace Go.Proofs.YtckbgeedlobfaaaDoor
open Go.Px Go.Px.Scan Go.Px.Spec Go.RowKit
attribute [-go_sem] Builtin.append_

/-- A word by itself. -/
theorem okw_wp {x:Wd} (h:WP x):∃kd:Nat,x.1=(kd:Int)∧OKW (wr x) kd x.2.1∧(wr x).size≤18:=by
 obtain ⟨h1,h2,h3,h4,h5,_⟩:=h
 have hno:∀n:Int,x.1=n→n≠2→wr x=x.2.1:=fun n hn h2=>by unfold wr;rw [if_neg (by omega)]
 rcases h5 with h5 | h5 | h5 | h5
 ·rw [hno 1 h5 (by omega)]
  exact ⟨1,h5,okw_name (h1 h5),by have:=(h1 h5).2.1;omega⟩
 ·have hw:wr x=quo x.2.1:=by unfold wr;rw [if_pos h5]
  rw [hw]
  exact ⟨2,h5,okw_quo (h2 h5),by rw [quo_size];have:=(h2 h5).2.1;omega⟩
 ·rw [hno 3 h5 (by omega)]
  have:=h3 h5
  unfold whole at this
  rw [List.any_eq_true] at this
  obtain ⟨o,ho,e⟩:=this
  have e':o=x.2.1:=toList_inj.1 (by simpa using e:x.2.1.toList=o.toList).symm
  rw [←e']
  have hall:∀o∈ordersL,okwB o 3=true∧o.size≤18:=by decide +kernel
  have:=hall o ho
  exact ⟨3,h5,okw_of this.1,this.2⟩
 ·rw [hno 4 h5 (by omega)]
  obtain ⟨e1,e2⟩:=h4 h5
  refine ⟨4,h5,⟨by omega,?_,?_,0,x.2.1.size,?_,extract_all _⟩,by omega⟩
  ·simp [signN,blankN] at *;omega
  ·simp [signN] at e2;omega
  ·unfold oneS;rw [if_pos e2,e1]

end Go.Proofs.YtckbgeedlobfaaaDoor

/-
  What is told hangs on a text's key alone; decisions of the machine; joined words.
-/
namespace Go.Px.Spec
open Go.Px Go.Px.Scan

/-! ### Keys -/
abbrev RKey:=ByteArray×List (ByteArray×Bool)×Nat×ByteArray
def rk (ls:List ByteArray) (r:RowS):RKey:=(r.left,r.words.map fun w=>(w.2.1,isNonX ls w),r.said,r.by_)
def rkT (k:RKey):List ByteArray:=(k.2.1.filter fun w => !w.2).map (·.1)++(if k.2.2.1=1 then [k.2.2.2] else [])
def kNum (ts:List (ByteArray×Int)) (k:RKey):List (ByteArray×Int):=(rkT k).foldl (fun ts t=>putT ts t 0) ts
def kSym (ts:List (ByteArray×Int)) (ls:List ByteArray) (w:ByteArray×Bool):Int:=if w.2 then nonX ts.length ls w.1 else posI ts w.1
def kLev (ts:List (ByteArray×Int)) (ls:List ByteArray) (k:RKey):Int :=
 if k.2.2.1=2 then 0 else if k.2.2.1=1 then lvAt ts (posI ts k.2.2.2) else (k.2.1.map (kSym ts ls)).foldl (lev1 ts) 0
def kPr (ts:List (ByteArray×Int)) (ls:List ByteArray) (k:RKey):Int×List Int×Int:=(nonX ts.length ls k.1,k.2.1.map (kSym ts ls),kLev ts ls k)
def outT (ts:List (ByteArray×Int)) (lv:List Int) (ls:List ByteArray) (st:ByteArray) (ks:List RKey):Gr×Int×Int :=
 if ts.length-1+ls.length > 64∨ks.length > 96 then (⟨[],[],[],0,[]⟩,11,0)
 else (⟨ts,ls,lv,if st=noT then ts.length else nonX ts.length ls st,ks.map (kPr ts ls)⟩,0,0)
def keys (m:Mc):List RKey:=m.rows.map (rk (dd m.lefts))
theorem rk_T (ls:List ByteArray) (r:RowS):rowT ls r=rkT (rk ls r):=by
 unfold rowT rkT rk
 simp only [List.filter_map,List.map_map]
 rfl
theorem rk_num (ls:List ByteArray) (ts:List (ByteArray×Int)) (r:RowS):numF ls ts r=kNum ts (rk ls r):=by unfold numF kNum;rw [rk_T]
theorem rk_nums (ls:List ByteArray) (l:List RowS):∀ts:List (ByteArray×Int),l.foldl (numF ls) ts=(l.map (rk ls)).foldl kNum ts:=by
 induction l with
 | nil=>exact fun _=>rfl
 | cons r l ih=>intro ts;rw [List.foldl_cons,List.map_cons,List.foldl_cons,ih,rk_num]
theorem rk_syms (ts:List (ByteArray×Int)) (ls:List ByteArray) (r:RowS):r.words.map (symX ts ls)=(rk ls r).2.1.map (kSym ts ls):=by
 show _=(r.words.map _).map _
 rw [List.map_map];rfl
theorem rk_pr (x:Rx) (r:RowS):gPr x r=kPr x.ts x.ls (rk x.ls r):=by
 unfold gPr kPr rlev kLev
 rw [rk_syms];rfl
theorem numX_ts (m:Mc):(numX (rxOf m)).ts=(keys m).foldl kNum (tmOf m.heads):=rk_nums (dd m.lefts) m.rows (tmOf m.heads)
/-- What is told of a text that is one. -/
def outM (m:Mc):Gr×Int×Int:=outT ((keys m).foldl kNum (tmOf m.heads)) (lvOf m.heads) (dd m.lefts) m.start (keys m)
theorem ref_acc {s:ByteArray} {l:List Wd} {m:Mc} (hs:wordsS s=(l,none)) (hg:goM m0 l=(m,[])) (he:endOk m=true):refG s=outM m:=by
 have hb:badS s = -1:=by unfold badS;rw [hs];simp only [hg,he,if_true]
 unfold refG
 rw [hb,if_neg (show ¬(0:Int) ≤ -1 by omega),hs]
 simp only [hg]
 unfold outM outT
 rw [←numX_ts]
 have hl:(numX (rxOf m)).rows.length=(keys m).length:=by simp [keys];rfl
 rw [hl]
 have hg:gOf (numX (rxOf m))=⟨(numX (rxOf m)).ts,dd m.lefts,lvOf m.heads,if m.start=noT then ((numX (rxOf m)).ts.length:Int) else nonX (numX (rxOf m)).ts.length (dd m.lefts) m.start,(keys m).map (kPr (numX (rxOf m)).ts (dd m.lefts))⟩:=by
  have:(keys m).map (kPr (numX (rxOf m)).ts (dd m.lefts))=m.rows.map (gPr (numX (rxOf m))):=by
   unfold keys
   rw [List.map_map]
   exact List.map_congr_left fun r _=>(rk_pr _ r).symm
  rw [this];rfl
 rw [hg];rfl

/-! ### Decisions -/
inductive Dec where
 | begin | head (d:Nat) | start0 | list | semi0 | startN | another | close | word | prec | none_ | by_
def decB (w:Wd):Option Dec:=if w.1=1 then some .begin else none
def decL (hs:List (Nat×List ByteArray)) (s:ByteArray):Option Dec:=if kn hs s=2∨(sideL hs=0∧0<kn hs s) then none else some .list
def decH (st:ByteArray) (w:Wd):Option Dec:=match sideOf w.2.1 with | some d=>some (.head d) | none=>if w.2.1=kStart∧st=noT then some .start0 else none
def decW (ph:Nat) (w:Wd):Option Dec :=
 if isSg w sBar then some .another else if isSg w sSemi then some .close else if ph=6∧isTB w then some .word else if ph=6∧isOr w kPrec then some .prec else if ph=6∧isOr w kNone then some .none_ else none
def dec (ph:Nat) (hs:List (Nat×List ByteArray)) (st:ByteArray) (w:Wd):Option Dec :=
 match ph with
 | 0=>if w.1=3 then decH st w else decB w
 | 1=>if isTB w then decL hs w.2.1 else none
 | 2=>if isTB w then decL hs w.2.1 else if isSg w sSemi then some .semi0 else none
 | 3=>if w.1=1 then some .startN else none
 | 4=>if isSg w sSemi then some .semi0 else none
 | 5=>if isSg w sColon then some .another else none
 | 7=>if isTB w then some .by_ else none
 | 9=>decB w
 | ph=>decW ph w
def app (m:Mc) (w:Wd):Dec→Mc
 | .begin=>{m with ph:=5,rule:=w.2.1,lefts:=m.lefts++[w.2.1] }
 | .head d=>{m with ph:=1,heads:=m.heads++[(d,[])] }
 | .start0=>{m with ph:=3 }
 | .list=>{m with ph:=2,heads:=modLast m.heads fun h=>(h.1,h.2++[w.2.1]) }
 | .semi0=>{m with ph:=0 }
 | .startN=>{m with ph:=4,start:=w.2.1 }
 | .another=>anotherS m
 | .close=>{m with ph:=9 }
 | .word=>{m with rows:=modLast m.rows fun r=>{r with words:=r.words++[w] } }
 | .prec=>{m with ph:=7,rows:=modLast m.rows fun r=>{r with said:=1 } }
 | .none_=>{m with ph:=8,rows:=modLast m.rows fun r=>{r with said:=2 } }
 | .by_=>{m with ph:=8,rows:=modLast m.rows fun r=>{r with by_:=w.2.1 } }
theorem step_dec (m:Mc) (w:Wd):stepM m w=(dec m.ph m.heads m.start w).map (app m w):=by
 have hb:beginS m w=(decB w).map (app m w):=by unfold beginS decB;rw [ite_map];rfl
 have hh:headS m w=(decH m.start w).map (app m w):=by
  unfold headS decH
  cases sideOf w.2.1 with
  | some d=>rfl
  | none=>simp only;rw [ite_map];rfl
 have hl:listS m w.2.1=(decL m.heads w.2.1).map (app m w):=by unfold listS decL;rw [ite_map];rfl
 have hw:∀ph,m.ph=ph→withinS m w=(decW ph w).map (app m w):=fun ph e=>by
  subst e
  unfold withinS decW
  rw [ite_map,ite_map,ite_map,ite_map,ite_map];rfl
 have hph:∀ph,m.ph=ph→stepM m w=(dec ph m.heads m.start w).map (app m w):=fun ph e=>by
  match ph,e with
  | 0,e=>simp only [stepM,e,dec];rw [ite_map,←hb,←hh]
  | 1,e=>simp only [stepM,e,dec];rw [ite_map,←hl];rfl
  | 2,e=>simp only [stepM,e,dec];rw [ite_map,ite_map,←hl];rfl
  | 3,e=>simp only [stepM,e,dec];rw [ite_map];rfl
  | 4,e=>simp only [stepM,e,dec];rw [ite_map];rfl
  | 5,e=>simp only [stepM,e,dec];rw [ite_map];rfl
  | 6,e=>simp only [stepM,e,dec];exact hw 6 e
  | 7,e=>simp only [stepM,e,dec];rw [ite_map];rfl
  | 8,e=>simp only [stepM,e,dec];exact hw 8 e
  | 9,e=>simp only [stepM,e,dec];exact hb
  | n+10,e=>simp only [stepM,e,dec];exact hw _ e
 exact hph m.ph rfl
theorem go_cons {m mf:Mc} {w:Wd} {l:List Wd} (h:goM m (w::l)=(mf,[])):∃d,dec m.ph m.heads m.start w=some d∧goM (app m w d) l=(mf,[]):=by
 have hs:=step_dec m w
 cases hd:dec m.ph m.heads m.start w with
 | none=>rw [hd] at hs;rw [goM_stuck hs] at h;cases h
 | some d=>rw [hd] at hs;rw [goM_step hs] at h;exact ⟨d,rfl,h⟩
theorem go_of {m mf:Mc} {w:Wd} {l:List Wd} {d:Dec} (h:dec m.ph m.heads m.start w=some d) (h2:goM (app m w d) l=(mf,[])):goM m (w::l)=(mf,[]):=by
 rw [goM_step (m':=app m w d) (by rw [step_dec,h];rfl)];exact h2
end Go.Px.Spec

/-
  SpecQuotes, plainly; words, joined.
-/
namespace Go.Px.Spec
open Go.Px Go.Px.Scan

def isCol:List Wd→Bool
 | c::_=>isSg c sColon
 | []=>false
theorem sg4 {w:Wd} {t:ByteArray} (h:isSg w t=true):w.1=4∧w.2.1=t:=by simpa [isSg] using h
/-- A colon stands behind a left alone. -/
theorem dec_col {ph:Nat} {hs:List (Nat×List ByteArray)} {st:ByteArray} {w:Wd} {d:Dec} (h:dec ph hs st w=some d) (hc:isSg w sColon=true):ph=5:=by
 obtain ⟨h4,ht⟩:=sg4 hc
 have n1:w.1≠1:=by omega
 have n3:w.1≠3:=by omega
 have hT:isTB w=false:=by simp [isTB];omega
 have hO:∀t,isOr w t=false:=fun t=>by simp [isOr];intro h;omega
 have hS:∀t,t≠sColon→isSg w t=false:=fun t hn=>by simp [isSg];intro _ e;rw [ht] at e;exact hn e.symm
 have s1:=hS sSemi (by decide)
 have s2:=hS sBar (by decide)
 unfold dec at h
 split at h
 ·rw [if_neg n3] at h;unfold decB at h;rw [if_neg n1] at h;cases h
 ·simp [hT] at h
 ·simp [hT,s1] at h
 ·simp [n1] at h
 ·simp [s1] at h
 ·rfl
 ·simp [hT] at h
 ·unfold decB at h;rw [if_neg n1] at h;cases h
 ·unfold decW at h;simp [s1,s2,hT,hO] at h
theorem dec_five {hs:List (Nat×List ByteArray)} {st:ByteArray} {w:Wd} {d:Dec} (h:dec 5 hs st w=some d):isSg w sColon=true∧d = .another:=by
 have h:(if isSg w sColon then some Dec.another else none)=some d:=h
 split at h
 ·rename_i hc;injection h with h;exact ⟨hc,h.symm⟩
 ·cases h
/-- Behind a left stands a colon. -/
theorem go_five {m mf:Mc} {l:List Wd} (hp:m.ph=5) (h:goM m l=(mf,[])) (he:endOk mf=true):isCol l=true:=by
 cases l with
 | nil=>cases h;simp [endOk,hp] at he
 | cons c l =>
  obtain ⟨d,h1,_⟩:=go_cons h
  rw [hp] at h1
  exact (dec_five h1).1

/-- A list of words in which some are quoted; p: %start stands ahead; ls: what may not. -/
inductive QR (ls:List ByteArray):Bool→List Wd→List Wd→Prop
 | nil {p:Bool}:QR ls p [] []
 | same {p:Bool} {w w':Wd} {l l':List Wd}:w'.1=w.1→w'.2.1=w.2.1→QR ls (isOr w kStart) l l'→QR ls p (w::l) (w'::l')
 | quote {p:Bool} {w w':Wd} {l l':List Wd}:p=false→w.1=1→w'.1=2→w'.2.1=w.2.1→isCol l=false→w.2.1∉ls→QR ls (isOr w kStart) l l'→QR ls p (w::l) (w'::l')
structure QM (ls:List ByteArray) (m m':Mc):Prop where
 ph:m'.ph=m.ph
 heads:m'.heads=m.heads
 start:m'.start=m.start
 rule:m'.rule=m.rule
 lefts:m'.lefts=m.lefts
 rows:m'.rows.map (rk ls)=m.rows.map (rk ls)
/-- Rows are turned alike. -/
theorem mod_rk {ls:List ByteArray} {a b:List RowS} {f f':RowS→RowS} (g:RKey→RKey) (h:a.map (rk ls)=b.map (rk ls)) (hf:∀r,rk ls (f r)=g (rk ls r)) (hf':∀r,rk ls (f' r)=g (rk ls r)):(modLast a f).map (rk ls)=(modLast b f').map (rk ls):=by
 rw [modLast_map a (rk ls) f g hf,modLast_map b (rk ls) f' g hf',h]
theorem QM.app {ls:List ByteArray} {m m':Mc} {w w':Wd} {d:Dec} (h:QM ls m m') (ht:w'.2.1=w.2.1) (hn:isNonX ls w'=isNonX ls w):QM ls (app m w d) (app m' w' d):=by
 have hr:=h.rows
 cases d with
 | begin=>exact ⟨rfl,h.heads,h.start,ht,by show m'.lefts++[w'.2.1]=m.lefts++[w.2.1];rw [h.lefts,ht],hr⟩
 | head d=>exact ⟨rfl,by show m'.heads++_=m.heads++_;rw [h.heads],h.start,h.rule,h.lefts,hr⟩
 | start0=>exact ⟨rfl,h.heads,h.start,h.rule,h.lefts,hr⟩
 | list=>exact ⟨rfl,by show modLast m'.heads _=modLast m.heads _;rw [h.heads,ht],h.start,h.rule,h.lefts,hr⟩
 | semi0=>exact ⟨rfl,h.heads,h.start,h.rule,h.lefts,hr⟩
 | startN=>exact ⟨rfl,h.heads,ht,h.rule,h.lefts,hr⟩
 | another=>exact ⟨rfl,h.heads,h.start,h.rule,h.lefts,by show (m'.rows++[_]).map _=(m.rows++[_]).map _;rw [List.map_append,List.map_append,hr,h.rule]⟩
 | close=>exact ⟨rfl,h.heads,h.start,h.rule,h.lefts,hr⟩
 | word =>
  refine ⟨h.ph,h.heads,h.start,h.rule,h.lefts,mod_rk (fun k=>(k.1,k.2.1++[(w.2.1,isNonX ls w)],k.2.2)) hr (fun r=>?_) (fun r=>?_)⟩
  ·simp [rk,ht,hn]
  ·simp [rk]
 | prec=>exact ⟨rfl,h.heads,h.start,h.rule,h.lefts,mod_rk (fun k=>(k.1,k.2.1,1,k.2.2.2)) hr (fun r=>rfl) fun r=>rfl⟩
 | none_=>exact ⟨rfl,h.heads,h.start,h.rule,h.lefts,mod_rk (fun k=>(k.1,k.2.1,2,k.2.2.2)) hr (fun r=>rfl) fun r=>rfl⟩
 | by_=>exact ⟨rfl,h.heads,h.start,h.rule,h.lefts,mod_rk (fun k=>(k.1,k.2.1,k.2.2.1,w.2.1)) hr (fun r=>by simp [rk,ht]) fun r=>rfl⟩

/-- Words, each with a blank behind. -/
def jn (l:List Wd):ByteArray:=l.foldl (fun T w=>T++wr w++(⟨#[32]⟩:ByteArray)) ⟨#[]⟩
theorem jn_snoc (l:List Wd) (w:Wd):jn (l++[w])=jn l++wr w++(⟨#[32]⟩:ByteArray):=by simp [jn]
end Go.Px.Spec
namespace Go.Proofs.YtckbgeedlobfaaaDoor
open Go.Px Go.Px.Scan Go.Px.Spec Go.RowKit
theorem jn_spread (l:List Wd):(∀w∈l,WP w)→∃T W,Spread T W∧W.map erW=l.map erW∧jn l=T++(if l=[] then (⟨#[]⟩:ByteArray) else ⟨#[32]⟩)∧(l=[]→T.size=0):=by
 rcases List.eq_nil_or_concat l with e | ⟨a,w,e⟩
 ·intro _
  subst e
  exact ⟨⟨#[]⟩,[],spread_nil,rfl,rfl,fun _=>rfl⟩
 ·intro hl
  have e':l=a++[w]:=by simpa using e
  subst e'
  have hlen:a.length<(a++[w]).length:=by simp
  obtain ⟨T,W,h1,h2,h3,h4⟩:=jn_spread a fun x hx=>hl x (by simp [hx])
  obtain ⟨kd,k1,k2,_⟩:=okw_wp (hl w (by simp))
  have hG:gapRun (bytesN (if a=[] then (⟨#[]⟩:ByteArray) else ⟨#[32]⟩)) false=some false:=by split <;> decide
  have hB:((if a=[] then (⟨#[]⟩:ByteArray) else ⟨#[32]⟩).size=0∧T.size=0)∨Behind (if a=[] then (⟨#[]⟩:ByteArray) else ⟨#[32]⟩)∧0<(if a=[] then (⟨#[]⟩:ByteArray) else ⟨#[32]⟩).size:=by
   by_cases ha:a=[]
   ·rw [if_pos ha];exact .inl ⟨rfl,h4 ha⟩
   ·rw [if_neg ha];exact .inr ⟨.inr (.inl (by decide)),by decide⟩
  refine ⟨_,_,spread_step h1 k2 hG hB,?_,?_,by simp⟩
  ·rw [List.map_append,List.map_append,h2,←k1];rfl
  ·rw [jn_snoc,h3,if_neg (show ¬a++[w]=[] by simp)]
termination_by l.length
theorem jn_words {l:List Wd} (hl:∀w∈l,WP w) (hs:(jn l).size≤8192):∃l',wordsS (jn l)=(l',none)∧l'.map erW=l.map erW:=by
 obtain ⟨T,W,h1,h2,h3,h4⟩:=jn_spread l hl
 refine ⟨W,?_,h2⟩
 rw [small_words (by omega),h3]
 by_cases ha:l=[]
 ·rw [if_pos ha]
  exact spread_end (cm:=false) h1 (Or.inl rfl) rfl
 ·rw [if_neg ha]
  exact spread_end (cm:=false) h1 (.inr (.inl (by decide))) (by decide)
/-- A joined text is told as its words are. -/
theorem jn_ref {s:ByteArray} {l l':List Wd} {m m':Mc} (hl:∀w∈l',WP w) (hs:(jn l').size≤8192) (hw:wordsS s=(l,none)) (hg:goM m0 l=(m,[])) (he:endOk m=true) (hg':goM m0 l'=(m',[])) (he':endOk m'=true) (ho:outM m'=outM m):refG s=refG (jn l'):=by
 obtain ⟨l2,h1,h2⟩:=jn_words hl hs
 rw [ref_acc hw hg he,←ho]
 have e1:=er_go l2 m0
 have e2:=er_go l' m0
 rw [h2,e2,hg'] at e1
 cases hg2:goM m0 l2 with
 | mk m2 r2 =>
  rw [hg2] at e1
  injection e1 with e1 e3
  have hr:r2=[]:=by cases r2 with
   | nil=>rfl
   | cons x r=>cases e3
  subst hr
  have he2:endOk m2=true:=by rw [←er_end m2,←e1,er_end];exact he'
  rw [ref_acc h1 hg2 he2]
  have hk:∀m:Mc,keys (erM m)=keys m:=fun m=>by
   unfold keys erM
   simp only [List.map_map]
   refine List.map_congr_left fun r _=>?_
   show rk _ (erR r)=rk _ r
   unfold rk erR
   simp only [List.map_map]
   rfl
  have ho2:∀m:Mc,outM (erM m)=outM m:=fun m=>by unfold outM;rw [hk];rfl
  rw [←ho2 m',e1,ho2]
end Go.Proofs.YtckbgeedlobfaaaDoor

/-
  Chapter 04's laws: joined, good.
-/
namespace Go.Px.Spec
open Go.Px Go.Px.Scan
/-- How long words are, with blanks and quotes. -/
def nW (l:List Wd):Nat:=(l.map fun w=>w.2.1.size+3).sum
theorem nW_snoc (l:List Wd) (w:Wd):nW (l++[w])=nW l+(w.2.1.size+3):=by simp [nW]
theorem wr_size (w:Wd):(wr w).size≤w.2.1.size+2:=by
 unfold wr;split
 ·rw [quo_size];omega
 ·omega
theorem jn_size (l:List Wd):(jn l).size≤nW l:=by
 rcases List.eq_nil_or_concat l with e | ⟨a,w,e⟩
 ·subst e;exact Nat.le_refl _
 ·have e':l=a++[w]:=by simpa using e
  subst e'
  have hlen:a.length<(a++[w]).length:=by simp
  have h1:=jn_size a
  have h2:=wr_size w
  rw [jn_snoc,nW_snoc,ByteArray.size_append,ByteArray.size_append]
  show _+_+1≤_
  omega
termination_by l.length
theorem nW_le {l:List Wd} {k:Nat} (h:∀w∈l,w.2.1.size≤k):nW l≤l.length*(k+3):=by
 induction l with
 | nil=>simp [nW]
 | cons w l ih =>
  have h1:=h w (by simp)
  have h2:=ih fun x hx=>h x (by simp [hx])
  have:nW (w::l)=w.2.1.size+3+nW l:=by simp [nW]
  rw [this,List.length_cons,Nat.succ_mul];omega
end Go.Px.Spec
namespace Go.Proofs.YtckbgeedlobfaaaDoor
open Go.Px Go.Px.Scan Go.Px.Spec Go.RowKit
attribute [-go_sem] Builtin.append_ law04_joined.b3 law04_joined.b7_1 law04_joined.b7_2 law04_good.b3_1 law04_good.b3_2 law04_good.b3 law04_good.b7_1 law04_good.b4

theorem joined_ct {G:Nat→Prop} {W w:World} {L:List Ch} {k:Nat} {A:Option Addr} {c:Nat} {l:List Wd} (s:St G W w L) (hk:L[k]?=some (rowC 46 3 A l.length c (l.flatMap encW))) (hl:l.length≤100000) (hx:∀x∈l,x.2.1.size≤100) :
  Ct Tryd.prog law04_joined.id #[.slice A l.length c] w fun v w'=>v = .string (jn l)∧Chg noB w w':=by
 refine law04_joined.ct fun R hR=>?_
 unfold law04_joined.run
 simp -dsimp [go_sem]
 refine law04_joined.l6_intro _ _ _ _ _ (fun y3 y4 w'=>∃i:Nat,y3 = .string (jn (l.take i))∧y4 = .int .i64 i∧i≤l.length∧Chg noB w w') (fun _ y _=>l.length-iv y) ⟨0,rfl,rfl,by omega,Chg.refl _ _⟩ ?_
 rintro _ _ w1 ⟨i,rfl,rfl,hi,hc⟩ C6 hC
 have s1:=s.old hc
 simp -dsimp [go_sem]
 refine SPL_intro (fun p1=>?_) (fun p1=>?_) <;> simp at p1
 ·obtain ⟨_,g,rfl,e0,e1,e2⟩:=word_at s1 hk p1
  have wi:IntKind.i64.wrap ((i:Int)+1)=(i:Int)+1:=IntWalk.i64_in _ (by omega)
  have hxi:=hx _ (List.getElem_mem p1)
  have hwv:Value.agg #[.int .i64 l[i].1,.string l[i].2.1,.int .i64 l[i].2.2]=wdV l[i]:=rfl
  have hb:(jn (l.take i)).size≤10300000:=by
   have h1:=jn_size (l.take i)
   have h2:=nW_le (l:=l.take i) (k:=100) fun w hw=>hx w (List.mem_of_mem_take hw)
   rw [List.length_take] at h2;omega
  have hw:=wr_size l[i]
  unfold law04_joined.b7_2
  simp -dsimp [go_sem,p1,Nat.not_le.2 p1,e0,e1,e2]
  rw [hwv]
  refine CALL_of (written_ct hxi) ?_
  rintro _ w2 ⟨rfl,hc2⟩
  have z1:(⟨#[32]⟩:ByteArray).size=1:=rfl
  unfold law04_joined.b7_1
  rw [RUN_eq,addS _ _ (by unfold maxLen;omega),RES_ok,RUN_eq,addS _ _ (by rw [ByteArray.size_append,z1];unfold maxLen;omega),RES_ok]
  simp -dsimp [go_sem,wi]
  refine hC _ _ _ ⟨i+1,?_,by simp,p1,hc.trans hc2⟩ (by simp [iv];omega)
  rw [List.take_succ_eq_append_getElem p1,jn_snoc]
 ·have hil:i=l.length:=by omega
  unfold law04_joined.b3
  refine hR _ _ ⟨?_,hc⟩
  rw [hil,List.take_length]

theorem good_ct {s:ByteArray} {m:Nat} {w:World} {B:Nat} (hs:s.size≤maxLen) (hm:m≤10000) (hO:Ord w B) (hB:B≤w.heap.size) :
  Ct Tryd.prog law04_good.id #[.string s,.int .i64 m] w fun v w'=>∃A c,v = .tuple #[.slice A (wordsS s).1.length c,.bool (decide ((wordsS s).2=none∧badS s<0∧nW (wordsS s).1+m≤8192))]∧St noB w w' [rowC 46 3 A (wordsS s).1.length c ((wordsS s).1.flatMap encW)]:=by
 refine law04_good.ct fun R hR=>?_
 unfold law04_good.run law04_good.b1
 refine CALL_of (refAll_ct hs w) ?_
 rintro _ w1 ⟨A,c,rfl,s1⟩
 have hlen:=words_len s
 have hwx:∀x∈(wordsS s).1,x.2.1.size≤16:=fun x hx=>word_sz hx
 generalize hl:(wordsS s).1=l at *
 unfold law04_good.b1_1
 simp -dsimp [go_sem]
 unfold law04_good.b4
 refine law04_good.l6_intro _ _ _ _ _ _ _ _ (fun y8 y9 w'=>∃i:Nat,y8 = .int .i64 (nW (l.take i))∧y9 = .int .i64 i∧i≤l.length∧St noB w w' [rowC 46 3 A l.length c (l.flatMap encW)]) (fun _ y _=>l.length-iv y) ⟨0,rfl,rfl,by omega,s1⟩ ?_
 rintro _ _ w2 ⟨i,rfl,rfl,hi,s2⟩ C6 hC
 simp -dsimp [go_sem]
 refine SPL_intro (fun p1=>?_) (fun p1=>?_) <;> simp at p1
 ·obtain ⟨_,g,rfl,e0,e1,e2⟩:=word_at s2 (k:=0) rfl p1
  have wi:IntKind.i64.wrap ((i:Int)+1)=(i:Int)+1:=IntWalk.i64_in _ (by omega)
  have hxi:=hwx _ (List.getElem_mem p1)
  have h2:=nW_le (l:=l.take i) (k:=16) fun w hw=>hwx w (List.mem_of_mem_take hw)
  rw [List.length_take] at h2
  have w1:IntKind.i64.wrap ((nW (l.take i):Int)+l[i].2.1.size)=(nW (l.take i):Int)+l[i].2.1.size:=IntWalk.i64_in _ (by omega)
  have w2:IntKind.i64.wrap ((nW (l.take i):Int)+l[i].2.1.size+3)=(nW (l.take i):Int)+l[i].2.1.size+3:=IntWalk.i64_in _ (by omega)
  unfold law04_good.b7_1
  simp -dsimp [go_sem,p1,Nat.not_le.2 p1,e1,wi,w1,w2]
  refine hC _ _ _ ⟨i+1,?_,by simp,p1,s2⟩ (by simp [iv];omega)
  rw [List.take_succ_eq_append_getElem p1,nW_snoc]
  simp [Int.add_assoc]
 ·have hil:i=l.length:=by omega
  subst hil
  rw [List.take_length]
  have hn:nW l≤l.length*19:=nW_le hwx
  have o2:=hO.chg s2.chg hB fun _ _=>id
  have hB2:B≤w2.heap.size:=by have:=s2.chg.size;omega
  unfold law04_good.b3
  cases hb:(wordsS s).2 with
  | some k =>
   have hk0:¬((k:Int)<0):=by omega
   unfold badV
   simp -dsimp [go_sem,hk0]
   exact hR _ _ ⟨A,c,by simp [hb],s2⟩
  | none =>
   unfold badV
   simp -dsimp [go_sem]
   unfold law04_good.b3_2
   refine CALL_of (Bad_ct hs o2 hB2) ?_
   rintro _ w3 ⟨rfl,hc3⟩
   simp -dsimp [go_sem]
   have wn:IntKind.i64.wrap ((nW l:Int)+m)=(nW l:Int)+m:=IntWalk.i64_in _ (by omega)
   refine SPL_intro (fun p2=>?_) (fun p2=>?_) <;> simp at p2
   ·unfold law04_good.b3_1
    simp -dsimp [go_sem,wn]
    refine hR _ _ ⟨A,c,?_,s2.old hc3⟩
    have e:((nW l:Int)+m≤8192)↔nW l+m≤8192:=by omega
    simp [p2,hb,e]
   ·have:¬badS s<0:=by omega
    refine hR _ _ ⟨A,c,?_,s2.old hc3⟩
    simp [this,hb]
end Go.Proofs.YtckbgeedlobfaaaDoor

/-
  SpecQuotes.
-/
namespace Go.Px.Spec
open Go.Px Go.Px.Scan
theorem isCol_at {l:List Wd} {i:Nat} (h:i<l.length):isCol (l.drop i)=isSg l[i] sColon:=by rw [List.drop_eq_getElem_cons h];rfl
theorem isCol_end {l:List Wd} {i:Nat} (h:l.length≤i):isCol (l.drop i)=false:=by rw [List.drop_eq_nil_of_le h];rfl
end Go.Px.Spec
namespace Go.Proofs.YtckbgeedlobfaaaDoor
open Go.Px Go.Px.Scan Go.Px.Spec Go.RowKit
attribute [-go_sem] Builtin.append_

section
variable {w1 w:World} {R:EP} {C6:VP→Value→VP} {C21:Value→VP} {A Ao:Option Addr} {c co:Nat} {l out:List Wd} {i:Nat}

end
end Go.Proofs.YtckbgeedlobfaaaDoor

/-
  SpecQuotes: the law.
-/
namespace Go.Proofs.YtckbgeedlobfaaaDoor
open Go.Px Go.Px.Scan Go.Px.Spec Go.RowKit
attribute [-go_sem] Builtin.append_

theorem col_text (t:ByteArray):(t.toList == [58])=decide (t=sColon):=by
 rw [Bool.eq_iff_iff];simp [←toList_inj,show sColon.toList=[58] by decide +kernel]
theorem start_text (t:ByteArray):(t.toList == [37,115,116,97,114,116])=decide (t=kStart):=by
 rw [Bool.eq_iff_iff];simp [←toList_inj,show kStart.toList=[37,115,116,97,114,116] by decide +kernel]
theorem token_text (t:ByteArray):(t.toList == [37,116,111,107,101,110])=decide (t=kToken):=by
 rw [Bool.eq_iff_iff];simp [←toList_inj,show kToken.toList=[37,116,111,107,101,110] by decide +kernel]

section
variable {w1 w:World} {R:EP} {A Ao:Option Addr} {c co:Nat} {l out:List Wd} {i:Nat}

end

end Go.Proofs.YtckbgeedlobfaaaDoor

/-
  SpecRows, plainly.
-/
namespace Go.Px.Spec
open Go.Px Go.Px.Scan
/-- Where a decision may be taken. -/
def FromPh (ph:Nat) (w:Wd):Dec→Prop
 | .begin=>(ph=0∨ph=9)∧w.1=1
 | .head d=>ph=0∧w.1=3∧sideOf w.2.1=some d
 | .start0=>ph=0∧isOr w kStart=true
 | .list=>(ph=1∨ph=2)∧isTB w=true
 | .semi0=>ph=2∨ph=4
 | .startN=>ph=3∧w.1=1
 | .another=>(ph=5∧isSg w sColon=true)∨(isSg w sBar=true∧(ph=6∨ph=8∨10≤ph))
 | .close=>isSg w sSemi=true∧(ph=6∨ph=8∨10≤ph)
 | .word=>ph=6∧isTB w=true
 | .prec=>ph=6∧isOr w kPrec=true
 | .none_=>ph=6∧isOr w kNone=true
 | .by_=>ph=7∧isTB w=true
theorem dec_from {ph:Nat} {hs:List (Nat×List ByteArray)} {st:ByteArray} {w:Wd} {d:Dec} (h:dec ph hs st w=some d):FromPh ph w d:=by
 have hB:∀{ph:Nat} {d},ph=0∨ph=9→decB w=some d→FromPh ph w d:=fun {ph d} hp h=>by
  unfold decB at h;split at h
  ·rename_i h1;injection h with h;subst h;exact ⟨hp,h1⟩
  ·cases h
 have hL:∀{ph:Nat} {d},ph=1∨ph=2→isTB w=true→decL hs w.2.1=some d→FromPh ph w d:=fun {ph d} hp hT h=>by
  unfold decL at h;split at h
  ·cases h
  ·injection h with h;subst h;exact ⟨hp,hT⟩
 have hW:∀{ph:Nat} {d},(ph=6∨ph=8∨10≤ph)→decW ph w=some d→FromPh ph w d:=fun {ph d} hp h=>by
  unfold decW at h
  split at h
  ·rename_i h1;injection h with h;subst h;exact .inr ⟨h1,hp⟩
  split at h
  ·rename_i h1;injection h with h;subst h;exact ⟨h1,hp⟩
  split at h
  ·rename_i h1;injection h with h;subst h;exact h1
  split at h
  ·rename_i h1;injection h with h;subst h;exact h1
  split at h
  ·rename_i h1;injection h with h;subst h;exact h1
  ·cases h
 match ph,h with
 | 0,h =>
  have h:(if w.1=3 then decH st w else decB w)=some d:=h
  split at h
  ·rename_i h3
   unfold decH at h
   cases hd:sideOf w.2.1 with
   | some x=>rw [hd] at h;injection h with h;subst h;exact ⟨rfl,h3,hd⟩
   | none =>
    rw [hd] at h;simp only at h
    split at h
    ·rename_i hc;injection h with h;subst h;exact ⟨rfl,by simp [isOr,h3,hc.1]⟩
    ·cases h
  ·exact hB (.inl rfl) h
 | 1,h =>
  have h:(if isTB w then decL hs w.2.1 else none)=some d:=h
  split at h
  ·rename_i hT;exact hL (.inl rfl) hT h
  ·cases h
 | 2,h =>
  have h:(if isTB w then decL hs w.2.1 else if isSg w sSemi then some .semi0 else none)=some d:=h
  split at h
  ·rename_i hT;exact hL (.inr rfl) hT h
  split at h
  ·injection h with h;subst h;exact .inl rfl
  ·cases h
 | 3,h =>
  have h:(if w.1=1 then some Dec.startN else none)=some d:=h
  split at h
  ·rename_i h1;injection h with h;subst h;exact ⟨rfl,h1⟩
  ·cases h
 | 4,h =>
  have h:(if isSg w sSemi then some Dec.semi0 else none)=some d:=h
  split at h
  ·injection h with h;subst h;exact .inr rfl
  ·cases h
 | 5,h =>
  have h:(if isSg w sColon then some Dec.another else none)=some d:=h
  split at h
  ·rename_i h1;injection h with h;subst h;exact .inl ⟨rfl,h1⟩
  ·cases h
 | 6,h=>exact hW (by omega) h
 | 7,h =>
  have h:(if isTB w then some Dec.by_ else none)=some d:=h
  split at h
  ·rename_i h1;injection h with h;subst h;exact ⟨rfl,h1⟩
  ·cases h
 | 8,h=>exact hW (by omega) h
 | 9,h=>exact hB (.inr rfl) h
 | n+10,h=>exact hW (by omega) h

structure RM (m m':Mc):Prop where
 ph:m'.ph=m.ph
 heads:m'.heads=m.heads
 start:m'.start=m.start
 rule:m'.rule=m.rule
 lefts:dd m'.lefts=dd m.lefts
 rows:m'.rows=m.rows
theorem RM.app {m m':Mc} {w:Wd} {d:Dec} (h:RM m m'):RM (app m w d) (app m' w d):=by
 have hr:=h.rows
 cases d with
 | begin=>exact ⟨rfl,h.heads,h.start,rfl,by show dd (m'.lefts++[w.2.1])=dd (m.lefts++[w.2.1]);rw [dd_snoc,dd_snoc,h.lefts],hr⟩
 | head d=>exact ⟨rfl,by show m'.heads++_=m.heads++_;rw [h.heads],h.start,h.rule,h.lefts,hr⟩
 | start0=>exact ⟨rfl,h.heads,h.start,h.rule,h.lefts,hr⟩
 | list=>exact ⟨rfl,by show modLast m'.heads _=modLast m.heads _;rw [h.heads],h.start,h.rule,h.lefts,hr⟩
 | semi0=>exact ⟨rfl,h.heads,h.start,h.rule,h.lefts,hr⟩
 | startN=>exact ⟨rfl,h.heads,rfl,h.rule,h.lefts,hr⟩
 | another=>exact ⟨rfl,h.heads,h.start,h.rule,h.lefts,by show m'.rows++[_]=m.rows++[_];rw [hr,h.rule]⟩
 | close=>exact ⟨rfl,h.heads,h.start,h.rule,h.lefts,hr⟩
 | word=>exact ⟨h.ph,h.heads,h.start,h.rule,h.lefts,by show modLast m'.rows _=modLast m.rows _;rw [hr]⟩
 | prec=>exact ⟨rfl,h.heads,h.start,h.rule,h.lefts,by show modLast m'.rows _=modLast m.rows _;rw [hr]⟩
 | none_=>exact ⟨rfl,h.heads,h.start,h.rule,h.lefts,by show modLast m'.rows _=modLast m.rows _;rw [hr]⟩
 | by_=>exact ⟨rfl,h.heads,h.start,h.rule,h.lefts,by show modLast m'.rows _=modLast m.rows _;rw [hr]⟩

/-- The phase behind a decision; what turns the rule. -/
theorem app_ph {m:Mc} {w:Wd} {d:Dec} (h:FromPh m.ph w d) (h5:5≤(app m w d).ph):d = .begin∨(5≤m.ph∧(app m w d).rule=m.rule∧(app m w d).lefts=m.lefts∧((app m w d).ph≠9→m.ph≠9)):=by
 cases d with
 | begin=>exact .inl rfl
 | head d=>have:5≤1:=h5;omega
 | start0=>have:5≤3:=h5;omega
 | list=>have:5≤2:=h5;omega
 | semi0=>have:5≤0:=h5;omega
 | startN=>have:5≤4:=h5;omega
 | another=>right;refine ⟨?_,rfl,rfl,fun _=>?_⟩ <;> (unfold FromPh at h;simp at h;omega)
 | close=>right;refine ⟨?_,rfl,rfl,fun _=>?_⟩ <;> (unfold FromPh at h;simp at h;omega)
 | word=>right;exact ⟨h5,rfl,rfl,fun h=>h⟩
 | prec=>right;refine ⟨?_,rfl,rfl,fun _=>?_⟩ <;> (unfold FromPh at h;simp at h;omega)
 | none_=>right;refine ⟨?_,rfl,rfl,fun _=>?_⟩ <;> (unfold FromPh at h;simp at h;omega)
 | by_=>right;refine ⟨?_,rfl,rfl,fun _=>?_⟩ <;> (unfold FromPh at h;simp at h;omega)
theorem wp_semi:WP (4,sSemi,0):=⟨by simp,by simp,by simp,fun _=>⟨rfl,by decide⟩,by simp,by decide⟩
end Go.Px.Spec
