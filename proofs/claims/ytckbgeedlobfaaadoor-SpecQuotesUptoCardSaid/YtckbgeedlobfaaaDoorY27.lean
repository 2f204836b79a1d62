/-
  Texts of this claim: Le1, Le2, Lf2, Lf3, Lq1, Lq2, Lq3, Lq4, Lq5, RwQuotes.
-/
import Derived.Test.YtckbgeedlobfaaaDoorY26
set_option maxHeartbeats 1000000
set_option linter.unusedSimpArgs false
set_option linter.unusedVariables false
set_option maxRecDepth 100000
/-
  SpecLong; a word as it is written.
-/
namespace Go.Proofs.YtckbgeedlobfaaaDoor
open Go.Px Go.Px.Scan Go.Px.Spec Go.RowKit

theorem addS (o1 o2:Operand) {a b:ByteArray} (h:a.size+b.size≤maxLen) (w:World):(bins .add 9 o1 o2 (.string a) (.string b)).run Tryd.prog w = .ok (.string (a++b)) w:=by
 have:¬9223372036854775807<a.size+b.size:=by unfold maxLen at h;omega
 simp -dsimp [go_sem,this]

attribute [-go_sem] Builtin.append_ law04_written.b1_1 law04_written.b1_2

theorem written_ct {w:World} {x:Wd} (hx:x.2.1.size≤100):Ct Tryd.prog law04_written.id #[wdV x] w fun v w'=>v = .string (wr x)∧Chg noB w w':=by
 refine law04_written.ct fun R hR=>?_
 unfold law04_written.run
 rw [show wdV x = .agg #[.int .i64 x.1,.string x.2.1,.int .i64 x.2.2] from rfl]
 have s1:=(St.refl noB w).alloc #[.int .i64 x.1,.string x.2.1,.int .i64 x.2.2] 46
 simp -dsimp [go_sem]
 generalize w.alloc (.cells _ 46)=w1 at s1 ⊢
 have k0:=(s1.box 0 rfl).1
 simp [boxAt] at k0
 refine SPL_intro (fun h=>?_) (fun h=>?_) <;> simp at h
 ·unfold law04_written.b1_1
  have e1:¬9223372036854775807<1+x.2.1.size:=by omega
  have e2:¬9223372036854775807<1+x.2.1.size+1:=by omega
  have z1:(⟨#[39]⟩:ByteArray).size=1:=rfl
  simp -dsimp [go_sem,k0,e1,e2,z1,ByteArray.size_append]
  refine hR _ _ ⟨?_,s1.chg⟩
  unfold wr quo;rw [if_pos h]
 ·unfold law04_written.b1_2
  simp -dsimp [go_sem,k0]
  refine hR _ _ ⟨?_,s1.chg⟩
  unfold wr;rw [if_neg h]

end Go.Proofs.YtckbgeedlobfaaaDoor

/-
  SpecBegins; the document's words, in pieces.
-/
namespace Go.Proofs.YtckbgeedlobfaaaDoor
open Go.Px Go.Px.Scan Go.Px.Spec Go.RowKit
attribute [-go_sem] Builtin.append_

theorem refAll_ct {s:ByteArray} (hs:s.size≤maxLen) (w:World):Ct Tryd.prog ref03_All.id #[.string s] w fun v w' =>
  ∃A c,v = .tuple #[.slice A (wordsS s).1.length c,badV (wordsS s).2]∧St noB w w' [rowC 46 3 A (wordsS s).1.length c ((wordsS s).1.flatMap encW)] :=
 (ref_All_ct hs w).mono fun v w' ⟨⟨sl,e,hrow⟩,hc⟩=>by
  obtain ⟨Aw,cw,rfl⟩:∃A c,sl = .slice A (wordsS s).1.length c:=by
   rcases hrow.2 with ⟨rfl,h0⟩ | ⟨g,cap,cur,rfl,_⟩
   ·exact ⟨none,0,by rw [h0]⟩
   ·exact ⟨_,_,rfl⟩
  exact ⟨Aw,cw,e,St.ofRow hrow hc⟩

/-- A word of a row of words. -/
theorem word_at {G:Nat→Prop} {W w:World} {L:List Ch} {k:Nat} {A:Option Addr} {n c:Nat} {l:List Wd} (s:St G W w L) (hk:L[k]?=some (rowC 46 3 A n c (l.flatMap encW))) {i:Nat} (hi:i<l.length) :
  n=l.length∧∃g,A=some ⟨g,0,none⟩∧w.cell? ⟨g,i*3,none⟩=some (.int .i64 l[i].1)∧w.cell? ⟨g,i*3+1,none⟩=some (.string l[i].2.1)∧w.cell? ⟨g,i*3+2,none⟩=some (.int .i64 l[i].2.2):=by
 obtain ⟨F,ho,_⟩:=s.get hk
 have hn:=(row_size ho).1
 have hfl:∀l:List Wd,(l.flatMap encW).length=l.length*3:=fun l=>by
  induction l with
  | nil=>rfl
  | cons x l ih=>rw [List.flatMap_cons,List.length_append,ih,List.length_cons];show 3+_=_;omega
 rw [hfl] at hn
 obtain ⟨g,hg,hc,_⟩:=row_elem ho (fun _ _=>rfl) (by omega) (List.getElem?_eq_getElem hi)
 exact ⟨by omega,g,hg,hc 0 _ rfl,hc 1 _ rfl,hc 2 _ rfl⟩

theorem word_sz {s:ByteArray} {x:Wd} (hx:x∈(wordsS s).1):x.2.1.size≤16:=by
 have h:=words_wp s x hx
 obtain ⟨h1,h2,h3,h4,h5,_⟩:=h
 rcases h5 with h5 | h5 | h5 | h5
 ·exact (h1 h5).2.1
 ·exact (h2 h5).2.1
 ·have:=h3 h5
  unfold whole at this
  rw [List.any_eq_true] at this
  obtain ⟨o,ho,e⟩:=this
  have e':o=x.2.1:=toList_inj.1 (by simpa using e:x.2.1.toList=o.toList).symm
  rw [←e']
  revert ho
  have:∀o∈ordersL,o.size≤16:=by decide
  exact this o
 ·have:=(h4 h5).1;omega

end Go.Proofs.YtckbgeedlobfaaaDoor

/-
  SpecSpread: gaps.
-/
namespace Go.Proofs.YtckbgeedlobfaaaDoor
open Go.Px Go.Px.Scan Go.Px.Spec Go.RowKit
attribute [-go_sem] Builtin.append_

end Go.Proofs.YtckbgeedlobfaaaDoor

/-
  SpecSpread.
-/
namespace Go.Px.Scan
open Go.Px
end Go.Px.Scan
namespace Go.Proofs.YtckbgeedlobfaaaDoor
open Go.Px Go.Px.Scan Go.Px.Spec Go.RowKit
attribute [-go_sem] Builtin.append_

/-- A word by itself. -/
theorem okw_wp {x:Wd} (h:WP x):∃kd:Nat,x.1=(kd:Int)∧OKW (wr x) kd x.2.1∧(wr x).size≤18:=by
 obtain ⟨h1,h2,h3,h4,h5,_⟩:=h
 have hno:∀n:Int,x.1=n→n≠2→wr x=x.2.1:=fun n hn h2=>by unfold wr;rw [if_neg (by omega)]
 rcases h5 with h5 | h5 | h5 | h5
 ·rw [hno 1 h5 (by omega)]
  exact ⟨1,h5,okw_name (h1 h5),by have:=(h1 h5).2.1;omega⟩
 ·have hw:wr x=quo x.2.1:=by unfold wr;rw [if_pos h5]
  rw [hw]
  exact ⟨2,h5,okw_quo (h2 h5),by rw [quo_size];have:=(h2 h5).2.1;omega⟩
 ·rw [hno 3 h5 (by omega)]
  have:=h3 h5
  unfold whole at this
  rw [List.any_eq_true] at this
  obtain ⟨o,ho,e⟩:=this
  have e':o=x.2.1:=toList_inj.1 (by simpa using e:x.2.1.toList=o.toList).symm
  rw [←e']
  have hall:∀o∈ordersL,okwB o 3=true∧o.size≤18:=by decide +kernel
  have:=hall o ho
  exact ⟨3,h5,okw_of this.1,this.2⟩
 ·rw [hno 4 h5 (by omega)]
  obtain ⟨e1,e2⟩:=h4 h5
  refine ⟨4,h5,⟨by omega,?_,?_,0,x.2.1.size,?_,extract_all _⟩,by omega⟩
  ·simp [signN,blankN] at *;omega
  ·simp [signN] at e2;omega
  ·unfold oneS;rw [if_pos e2,e1]

end Go.Proofs.YtckbgeedlobfaaaDoor

/-
  What is told hangs on a text's key alone; decisions of the machine; joined words.
-/
namespace Go.Px.Spec
open Go.Px Go.Px.Scan

/-! ### Keys -/
abbrev RKey:=ByteArray×List (ByteArray×Bool)×Nat×ByteArray
def rk (ls:List ByteArray) (r:RowS):RKey:=(r.left,r.words.map fun w=>(w.2.1,isNonX ls w),r.said,r.by_)
def rkT (k:RKey):List ByteArray:=(k.2.1.filter fun w => !w.2).map (·.1)++(if k.2.2.1=1 then [k.2.2.2] else [])
def kNum (ts:List (ByteArray×Int)) (k:RKey):List (ByteArray×Int):=(rkT k).foldl (fun ts t=>putT ts t 0) ts
def kSym (ts:List (ByteArray×Int)) (ls:List ByteArray) (w:ByteArray×Bool):Int:=if w.2 then nonX ts.length ls w.1 else posI ts w.1
def kLev (ts:List (ByteArray×Int)) (ls:List ByteArray) (k:RKey):Int :=
 if k.2.2.1=2 then 0 else if k.2.2.1=1 then lvAt ts (posI ts k.2.2.2) else (k.2.1.map (kSym ts ls)).foldl (lev1 ts) 0
def kPr (ts:List (ByteArray×Int)) (ls:List ByteArray) (k:RKey):Int×List Int×Int:=(nonX ts.length ls k.1,k.2.1.map (kSym ts ls),kLev ts ls k)
def outT (ts:List (ByteArray×Int)) (lv:List Int) (ls:List ByteArray) (st:ByteArray) (ks:List RKey):Gr×Int×Int :=
 if ts.length-1+ls.length > 64∨ks.length > 96 then (⟨[],[],[],0,[]⟩,11,0)
 else (⟨ts,ls,lv,if st=noT then ts.length else nonX ts.length ls st,ks.map (kPr ts ls)⟩,0,0)
def keys (m:Mc):List RKey:=m.rows.map (rk (dd m.lefts))
theorem rk_T (ls:List ByteArray) (r:RowS):rowT ls r=rkT (rk ls r):=by
 unfold rowT rkT rk
 simp only [List.filter_map,List.map_map]
 rfl
theorem rk_num (ls:List ByteArray) (ts:List (ByteArray×Int)) (r:RowS):numF ls ts r=kNum ts (rk ls r):=by unfold numF kNum;rw [rk_T]
theorem rk_nums (ls:List ByteArray) (l:List RowS):∀ts:List (ByteArray×Int),l.foldl (numF ls) ts=(l.map (rk ls)).foldl kNum ts:=by
 induction l with
 | nil=>exact fun _=>rfl
 | cons r l ih=>intro ts;rw [List.foldl_cons,List.map_cons,List.foldl_cons,ih,rk_num]
theorem rk_syms (ts:List (ByteArray×Int)) (ls:List ByteArray) (r:RowS):r.words.map (symX ts ls)=(rk ls r).2.1.map (kSym ts ls):=by
 show _=(r.words.map _).map _
 rw [List.map_map];rfl
theorem rk_pr (x:Rx) (r:RowS):gPr x r=kPr x.ts x.ls (rk x.ls r):=by
 unfold gPr kPr rlev kLev
 rw [rk_syms];rfl
theorem numX_ts (m:Mc):(numX (rxOf m)).ts=(keys m).foldl kNum (tmOf m.heads):=rk_nums (dd m.lefts) m.rows (tmOf m.heads)
/-- What is told of a text that is one. -/
def outM (m:Mc):Gr×Int×Int:=outT ((keys m).foldl kNum (tmOf m.heads)) (lvOf m.heads) (dd m.lefts) m.start (keys m)
theorem ref_acc {s:ByteArray} {l:List Wd} {m:Mc} (hs:wordsS s=(l,none)) (hg:goM m0 l=(m,[])) (he:endOk m=true):refG s=outM m:=by
 have hb:badS s = -1:=by unfold badS;rw [hs];simp only [hg,he,if_true]
 unfold refG
 rw [hb,if_neg (show ¬(0:Int) ≤ -1 by omega),hs]
 simp only [hg]
 unfold outM outT
 rw [←numX_ts]
 have hl:(numX (rxOf m)).rows.length=(keys m).length:=by simp [keys];rfl
 rw [hl]
 have hg:gOf (numX (rxOf m))=⟨(numX (rxOf m)).ts,dd m.lefts,lvOf m.heads,if m.start=noT then ((numX (rxOf m)).ts.length:Int) else nonX (numX (rxOf m)).ts.length (dd m.lefts) m.start,(keys m).map (kPr (numX (rxOf m)).ts (dd m.lefts))⟩:=by
  have:(keys m).map (kPr (numX (rxOf m)).ts (dd m.lefts))=m.rows.map (gPr (numX (rxOf m))):=by
   unfold keys
   rw [List.map_map]
   exact List.map_congr_left fun r _=>(rk_pr _ r).symm
  rw [this];rfl
 rw [hg];rfl

/-! ### Decisions -/
inductive Dec where
 | begin | head (d:Nat) | start0 | list | semi0 | startN | another | close | word | prec | none_ | by_
def decB (w:Wd):Option Dec:=if w.1=1 then some .begin else none
def decL (hs:List (Nat×List ByteArray)) (s:ByteArray):Option Dec:=if kn hs s=2∨(sideL hs=0∧0<kn hs s) then none else some .list
def decH (st:ByteArray) (w:Wd):Option Dec:=match sideOf w.2.1 with | some d=>some (.head d) | none=>if w.2.1=kStart∧st=noT then some .start0 else none
def decW (ph:Nat) (w:Wd):Option Dec :=
 if isSg w sBar then some .another else if isSg w sSemi then some .close else if ph=6∧isTB w then some .word else if ph=6∧isOr w kPrec then some .prec else if ph=6∧isOr w kNone then some .none_ else none
def dec (ph:Nat) (hs:List (Nat×List ByteArray)) (st:ByteArray) (w:Wd):Option Dec :=
 match ph with
 | 0=>if w.1=3 then decH st w else decB w
 | 1=>if isTB w then decL hs w.2.1 else none
 | 2=>if isTB w then decL hs w.2.1 else if isSg w sSemi then some .semi0 else none
 | 3=>if w.1=1 then some .startN else none
 | 4=>if isSg w sSemi then some .semi0 else none
 | 5=>if isSg w sColon then some .another else none
 | 7=>if isTB w then some .by_ else none
 | 9=>decB w
 | ph=>decW ph w
def app (m:Mc) (w:Wd):Dec→Mc
 | .begin=>{m with ph:=5,rule:=w.2.1,lefts:=m.lefts++[w.2.1] }
 | .head d=>{m with ph:=1,heads:=m.heads++[(d,[])] }
 | .start0=>{m with ph:=3 }
 | .list=>{m with ph:=2,heads:=modLast m.heads fun h=>(h.1,h.2++[w.2.1]) }
 | .semi0=>{m with ph:=0 }
 | .startN=>{m with ph:=4,start:=w.2.1 }
 | .another=>anotherS m
 | .close=>{m with ph:=9 }
 | .word=>{m with rows:=modLast m.rows fun r=>{r with words:=r.words++[w] } }
 | .prec=>{m with ph:=7,rows:=modLast m.rows fun r=>{r with said:=1 } }
 | .none_=>{m with ph:=8,rows:=modLast m.rows fun r=>{r with said:=2 } }
 | .by_=>{m with ph:=8,rows:=modLast m.rows fun r=>{r with by_:=w.2.1 } }
theorem step_dec (m:Mc) (w:Wd):stepM m w=(dec m.ph m.heads m.start w).map (app m w):=by
 have hb:beginS m w=(decB w).map (app m w):=by unfold beginS decB;rw [ite_map];rfl
 have hh:headS m w=(decH m.start w).map (app m w):=by
  unfold headS decH
  cases sideOf w.2.1 with
  | some d=>rfl
  | none=>simp only;rw [ite_map];rfl
 have hl:listS m w.2.1=(decL m.heads w.2.1).map (app m w):=by unfold listS decL;rw [ite_map];rfl
 have hw:∀ph,m.ph=ph→withinS m w=(decW ph w).map (app m w):=fun ph e=>by
  subst e
  unfold withinS decW
  rw [ite_map,ite_map,ite_map,ite_map,ite_map];rfl
 have hph:∀ph,m.ph=ph→stepM m w=(dec ph m.heads m.start w).map (app m w):=fun ph e=>by
  match ph,e with
  | 0,e=>simp only [stepM,e,dec];rw [ite_map,←hb,←hh]
  | 1,e=>simp only [stepM,e,dec];rw [ite_map,←hl];rfl
  | 2,e=>simp only [stepM,e,dec];rw [ite_map,ite_map,←hl];rfl
  | 3,e=>simp only [stepM,e,dec];rw [ite_map];rfl
  | 4,e=>simp only [stepM,e,dec];rw [ite_map];rfl
  | 5,e=>simp only [stepM,e,dec];rw [ite_map];rfl
  | 6,e=>simp only [stepM,e,dec];exact hw 6 e
  | 7,e=>simp only [stepM,e,dec];rw [ite_map];rfl
  | 8,e=>simp only [stepM,e,dec];exact hw 8 e
  | 9,e=>simp only [stepM,e,dec];exact hb
  | n+10,e=>simp only [stepM,e,dec];exact hw _ e
 exact hph m.ph rfl
theorem go_cons {m mf:Mc} {w:Wd} {l:List Wd} (h:goM m (w::l)=(mf,[])):∃d,dec m.ph m.heads m.start w=some d∧goM (app m w d) l=(mf,[]):=by
 have hs:=step_dec m w
 cases hd:dec m.ph m.heads m.start w with
 | none=>rw [hd] at hs;rw [goM_stuck hs] at h;cases h
 | some d=>rw [hd] at hs;rw [goM_step hs] at h;exact ⟨d,rfl,h⟩
theorem go_of {m mf:Mc} {w:Wd} {l:List Wd} {d:Dec} (h:dec m.ph m.heads m.start w=some d) (h2:goM (app m w d) l=(mf,[])):goM m (w::l)=(mf,[]):=by
 rw [goM_step (m':=app m w d) (by rw [step_dec,h];rfl)];exact h2
end Go.Px.Spec

/-
  SpecQuotes, plainly; words, joined.
-/
namespace Go.Px.Spec
open Go.Px Go.Px.Scan

def isCol:List Wd→Bool
 | c::_=>isSg c sColon
 | []=>false
theorem dec_five {hs:List (Nat×List ByteArray)} {st:ByteArray} {w:Wd} {d:Dec} (h:dec 5 hs st w=some d):isSg w sColon=true∧d = .another:=by
 have h:(if isSg w sColon then some Dec.another else none)=some d:=h
 split at h
 ·rename_i hc;injection h with h;exact ⟨hc,h.symm⟩
 ·cases h
/-- Behind a left stands a colon. -/
theorem go_five {m mf:Mc} {l:List Wd} (hp:m.ph=5) (h:goM m l=(mf,[])) (he:endOk mf=true):isCol l=true:=by
 cases l with
 | nil=>cases h;simp [endOk,hp] at he
 | cons c l =>
  obtain ⟨d,h1,_⟩:=go_cons h
  rw [hp] at h1
  exact (dec_five h1).1
/-- Which decisions there may be. -/
theorem dec_begin {ph:Nat} {hs:List (Nat×List ByteArray)} {st:ByteArray} {w:Wd} (h:dec ph hs st w=some .begin):(ph=0∨ph=9)∧w.1=1:=by
 have hB:∀{d},decB w=some d→w.1=1:=fun {d} h=>by unfold decB at h;split at h;assumption;cases h
 have hL:decL hs w.2.1≠some .begin:=by unfold decL;split <;> simp
 unfold dec at h
 split at h
 ·split at h
  ·unfold decH at h
   cases hd:sideOf w.2.1 with
   | some d=>rw [hd] at h;cases h
   | none=>rw [hd] at h;simp only at h;split at h <;> cases h
  ·exact ⟨Or.inl rfl,hB h⟩
 ·split at h
  ·exact absurd h hL
  ·cases h
 ·split at h
  ·exact absurd h hL
  ·split at h <;> cases h
 ·split at h <;> cases h
 ·split at h <;> cases h
 ·split at h <;> cases h
 ·split at h <;> cases h
 ·exact ⟨Or.inr rfl,hB h⟩
 ·unfold decW at h
  split at h
  ·cases h
  split at h
  ·cases h
  split at h
  ·cases h
  split at h
  ·cases h
  split at h
  ·cases h
  ·cases h

/-- Is a text the name of a rule among words? -/
def nonQ:List Wd→ByteArray→Bool
 | w::l,t=>decide (w.1=1∧w.2.1=t) && isCol l || nonQ l t
 | [],_=>false
theorem go_lefts {l:List Wd}:∀{m mf:Mc},goM m l=(mf,[])→endOk mf=true→∀x∈mf.lefts,x∈m.lefts∨nonQ l x=true:=by
 induction l with
 | nil=>intro m mf h _ x hx;cases h;exact Or.inl hx
 | cons w l ih =>
  intro m mf h he x hx
  obtain ⟨d,h1,h2⟩:=go_cons h
  rcases ih h2 he x hx with h3 | h3
  ·cases d with
   | begin =>
    have h3:x∈m.lefts++[w.2.1]:=h3
    rcases List.mem_append.1 h3 with h3 | h3
    ·exact Or.inl h3
    ·right
     have hk:=(dec_begin h1).2
     have hc:=go_five (m:=app m w .begin) rfl h2 he
     simp at h3
     simp [nonQ,hk,h3,hc]
   | _=>exact Or.inl h3
  ·right;simp [nonQ,h3]

/-- A list of words in which some are quoted; p: %start stands ahead; ls: what may not. -/
inductive QR (ls:List ByteArray):Bool→List Wd→List Wd→Prop
 | nil {p:Bool}:QR ls p [] []
 | same {p:Bool} {w w':Wd} {l l':List Wd}:w'.1=w.1→w'.2.1=w.2.1→QR ls (isOr w kStart) l l'→QR ls p (w::l) (w'::l')
 | quote {p:Bool} {w w':Wd} {l l':List Wd}:p=false→w.1=1→w'.1=2→w'.2.1=w.2.1→isCol l=false→w.2.1∉ls→QR ls (isOr w kStart) l l'→QR ls p (w::l) (w'::l')
structure QM (ls:List ByteArray) (m m':Mc):Prop where
 ph:m'.ph=m.ph
 heads:m'.heads=m.heads
 start:m'.start=m.start
 rule:m'.rule=m.rule
 lefts:m'.lefts=m.lefts
 rows:m'.rows.map (rk ls)=m.rows.map (rk ls)
theorem dec_same {ph:Nat} {hs:List (Nat×List ByteArray)} {st:ByteArray} {w w':Wd} (h1:w'.1=w.1) (h2:w'.2.1=w.2.1):dec ph hs st w'=dec ph hs st w:=by
 unfold dec decB decL decH decW isTB isSg isOr
 rw [h1,h2]
/-- Rows are turned alike. -/
theorem mod_rk {ls:List ByteArray} {a b:List RowS} {f f':RowS→RowS} (g:RKey→RKey) (h:a.map (rk ls)=b.map (rk ls)) (hf:∀r,rk ls (f r)=g (rk ls r)) (hf':∀r,rk ls (f' r)=g (rk ls r)):(modLast a f).map (rk ls)=(modLast b f').map (rk ls):=by
 rw [modLast_map a (rk ls) f g hf,modLast_map b (rk ls) f' g hf',h]
theorem QM.app {ls:List ByteArray} {m m':Mc} {w w':Wd} {d:Dec} (h:QM ls m m') (ht:w'.2.1=w.2.1) (hn:isNonX ls w'=isNonX ls w):QM ls (app m w d) (app m' w' d):=by
 have hr:=h.rows
 cases d with
 | begin=>exact ⟨rfl,h.heads,h.start,ht,by show m'.lefts++[w'.2.1]=m.lefts++[w.2.1];rw [h.lefts,ht],hr⟩
 | head d=>exact ⟨rfl,by show m'.heads++_=m.heads++_;rw [h.heads],h.start,h.rule,h.lefts,hr⟩
 | start0=>exact ⟨rfl,h.heads,h.start,h.rule,h.lefts,hr⟩
 | list=>exact ⟨rfl,by show modLast m'.heads _=modLast m.heads _;rw [h.heads,ht],h.start,h.rule,h.lefts,hr⟩
 | semi0=>exact ⟨rfl,h.heads,h.start,h.rule,h.lefts,hr⟩
 | startN=>exact ⟨rfl,h.heads,ht,h.rule,h.lefts,hr⟩
 | another=>exact ⟨rfl,h.heads,h.start,h.rule,h.lefts,by show (m'.rows++[_]).map _=(m.rows++[_]).map _;rw [List.map_append,List.map_append,hr,h.rule]⟩
 | close=>exact ⟨rfl,h.heads,h.start,h.rule,h.lefts,hr⟩
 | word =>
  refine ⟨h.ph,h.heads,h.start,h.rule,h.lefts,mod_rk (fun k=>(k.1,k.2.1++[(w.2.1,isNonX ls w)],k.2.2)) hr (fun r=>?_) (fun r=>?_)⟩
  ·simp [rk,ht,hn]
  ·simp [rk]
 | prec=>exact ⟨rfl,h.heads,h.start,h.rule,h.lefts,mod_rk (fun k=>(k.1,k.2.1,1,k.2.2.2)) hr (fun r=>rfl) fun r=>rfl⟩
 | none_=>exact ⟨rfl,h.heads,h.start,h.rule,h.lefts,mod_rk (fun k=>(k.1,k.2.1,2,k.2.2.2)) hr (fun r=>rfl) fun r=>rfl⟩
 | by_=>exact ⟨rfl,h.heads,h.start,h.rule,h.lefts,mod_rk (fun k=>(k.1,k.2.1,k.2.2.1,w.2.1)) hr (fun r=>by simp [rk,ht]) fun r=>rfl⟩
theorem dec_start0 {ph:Nat} {hs:List (Nat×List ByteArray)} {st:ByteArray} {w:Wd} (h:dec ph hs st w=some .start0):isOr w kStart=true:=by
 have hB:decB w≠some .start0:=by unfold decB;split <;> simp
 have hL:decL hs w.2.1≠some .start0:=by unfold decL;split <;> simp
 unfold dec at h
 split at h
 ·split at h
  ·rename_i h3
   unfold decH at h
   cases hd:sideOf w.2.1 with
   | some d=>rw [hd] at h;cases h
   | none =>
    rw [hd] at h;simp only at h
    split at h
    ·rename_i hc;simp [isOr,h3,hc.1]
    ·cases h
  ·exact absurd h hB
 ·split at h
  ·exact absurd h hL
  ·cases h
 ·split at h
  ·exact absurd h hL
  ·split at h <;> cases h
 ·split at h <;> cases h
 ·split at h <;> cases h
 ·split at h <;> cases h
 ·split at h <;> cases h
 ·exact absurd h hB
 ·unfold decW at h
  split at h
  ·cases h
  split at h
  ·cases h
  split at h
  ·cases h
  split at h
  ·cases h
  split at h
  ·cases h
  ·cases h
theorem app_three {ph:Nat} {hs:List (Nat×List ByteArray)} {st:ByteArray} {m:Mc} {w:Wd} {d:Dec} (h:dec ph hs st w=some d) (hp:m.ph=ph) (h3:(app m w d).ph=3):isOr w kStart=true:=by
 cases d with
 | start0=>exact dec_start0 h
 | word =>
  have h3:m.ph=3:=h3
  rw [←hp,h3] at h
  have h:(if w.1=1 then some Dec.startN else none)=some .word:=h
  split at h <;> cases h
 | begin=>cases h3
 | head d=>cases h3
 | list=>cases h3
 | semi0=>cases h3
 | startN=>cases h3
 | another=>cases h3
 | close=>cases h3
 | prec=>cases h3
 | none_=>cases h3
 | by_=>cases h3
/-- A name that may be quoted: the decision is the same. -/
theorem dec_quote {ph:Nat} {hs:List (Nat×List ByteArray)} {st:ByteArray} {w w':Wd} {d:Dec} (h:dec ph hs st w=some d) (h1:w.1=1) (h2:w'.1=2) (ht:w'.2.1=w.2.1) (hp:ph≠3) (hb:d ≠ .begin):dec ph hs st w'=some d:=by
 have hT:isTB w=true:=by simp [isTB,h1]
 have hT':isTB w'=true:=by simp [isTB,h2]
 have hB:decB w=some .begin:=by unfold decB;rw [if_pos h1]
 have hS:∀t,isSg w t=false:=fun t=>sg_T hT
 have hS':∀t,isSg w' t=false:=fun t=>sg_T hT'
 have hO:∀t,isOr w t=false:=fun t=>or_T hT
 have hO':∀t,isOr w' t=false:=fun t=>or_T hT'
 unfold dec at h ⊢
 split at h
 ·rw [if_neg (by omega),hB] at h;injection h with h;exact absurd h.symm hb
 ·simp only [hT,hT',if_true] at h ⊢;rw [ht];exact h
 ·simp only [hT,hT',if_true] at h ⊢;rw [ht];exact h
 ·exact absurd rfl hp
 ·rw [hS] at h;cases h
 ·rw [hS] at h;cases h
 ·simp only [hT,hT',if_true] at h ⊢;exact h
 ·rw [hB] at h;injection h with h;exact absurd h.symm hb
 ·unfold decW at h ⊢
  simp only [hT,hT',hS,hS',hO,hO'] at h ⊢;exact h
theorem quote_go {ls:List ByteArray} {p:Bool} {l l':List Wd} (h:QR ls p l l'):∀{m m' mf:Mc},QM ls m m'→(m.ph=3→p=true)→goM m l=(mf,[])→endOk mf=true→∃mf',goM m' l'=(mf',[])∧QM ls mf mf':=by
 induction h with
 | nil=>intro m m' mf hm _ hg _;cases hg;exact ⟨m',rfl,hm⟩
 | @same p w w' l l' h1 h2 _ ih =>
  intro m m' mf hm _ hg he
  obtain ⟨d,hd,hg2⟩:=go_cons hg
  have hn:isNonX ls w'=isNonX ls w:=by unfold isNonX;rw [h1,h2]
  obtain ⟨mf',e1,e2⟩:=ih (hm.app (d:=d) h2 hn) (app_three hd rfl) hg2 he
  exact ⟨mf',go_of (by rw [hm.ph,hm.heads,hm.start,dec_same h1 h2];exact hd) e1,e2⟩
 | @quote p w w' l l' hp h1 h2 h3 hcol hls _ ih =>
  intro m m' mf hm h3p hg he
  obtain ⟨d,hd,hg2⟩:=go_cons hg
  have hb:d ≠ .begin:=fun e=>by
   subst e
   have:=go_five (m:=app m w .begin) rfl hg2 he
   rw [hcol] at this;cases this
  have hph:m.ph≠3:=fun e=>by rw [h3p e] at hp;cases hp
  have hn:isNonX ls w'=isNonX ls w:=by
   unfold isNonX
   have:hasB ls w.2.1=false:=by rw [Bool.eq_false_iff];exact fun h=>hls (hasB_iff.1 h)
   rw [h3,this];rfl
  obtain ⟨mf',e1,e2⟩:=ih (hm.app (d:=d) h3 hn) (app_three hd rfl) hg2 he
  exact ⟨mf',go_of (by rw [hm.ph,hm.heads,hm.start];exact dec_quote hd h1 h2 h3 hph hb) e1,e2⟩
theorem quote_out {l l':List Wd} {mf:Mc} (hg:goM m0 l=(mf,[])) (he:endOk mf=true) (h:QR (dd mf.lefts) false l l'):∃mf',goM m0 l'=(mf',[])∧endOk mf'=true∧outM mf'=outM mf:=by
 obtain ⟨mf',e1,e2⟩:=quote_go h (m:=m0) (m':=m0) ⟨rfl,rfl,rfl,rfl,rfl,rfl⟩ (by simp [m0]) hg he
 refine ⟨mf',e1,?_,?_⟩
 ·unfold endOk at he ⊢;rw [e2.ph,e2.start,e2.lefts];exact he
 ·have hk:keys mf'=keys mf:=by unfold keys;rw [e2.lefts];exact e2.rows
  unfold outM
  rw [hk,e2.heads,e2.lefts,e2.start]

/-- The words of SpecQuotes. -/
def qL (L:List Wd):Bool→List Wd→List Wd
 | _,[]=>[]
 | p,w::l=>(if w.1=1∧isCol l=false∧p=false∧nonQ L w.2.1=false then (2,w.2.1,w.2.2) else w)::qL L (isOr w kStart) l
theorem qL_rel {L:List Wd} {ls:List ByteArray} (h:∀x,nonQ L x=false→x∉ls):∀(l:List Wd) (p:Bool),QR ls p l (qL L p l):=fun l=>by
 induction l with
 | nil=>exact fun p => .nil
 | cons w l ih =>
  intro p
  unfold qL
  by_cases hc:w.1=1∧isCol l=false∧p=false∧nonQ L w.2.1=false
  ·rw [if_pos hc];exact .quote hc.2.2.1 hc.1 rfl rfl hc.2.1 (h _ hc.2.2.2) (ih _)
  ·rw [if_neg hc];exact .same rfl rfl (ih _)

/-- Words, each with a blank behind. -/
def jn (l:List Wd):ByteArray:=l.foldl (fun T w=>T++wr w++(⟨#[32]⟩:ByteArray)) ⟨#[]⟩
theorem jn_snoc (l:List Wd) (w:Wd):jn (l++[w])=jn l++wr w++(⟨#[32]⟩:ByteArray):=by simp [jn]
end Go.Px.Spec
namespace Go.Proofs.YtckbgeedlobfaaaDoor
open Go.Px Go.Px.Scan Go.Px.Spec Go.RowKit
theorem jn_spread (l:List Wd):(∀w∈l,WP w)→∃T W,Spread T W∧W.map erW=l.map erW∧jn l=T++(if l=[] then (⟨#[]⟩:ByteArray) else ⟨#[32]⟩)∧(l=[]→T.size=0):=by
 rcases List.eq_nil_or_concat l with e | ⟨a,w,e⟩
 ·intro _
  subst e
  exact ⟨⟨#[]⟩,[],spread_nil,rfl,rfl,fun _=>rfl⟩
 ·intro hl
  have e':l=a++[w]:=by simpa using e
  subst e'
  have hlen:a.length<(a++[w]).length:=by simp
  obtain ⟨T,W,h1,h2,h3,h4⟩:=jn_spread a fun x hx=>hl x (by simp [hx])
  obtain ⟨kd,k1,k2,_⟩:=okw_wp (hl w (by simp))
  have hG:gapRun (bytesN (if a=[] then (⟨#[]⟩:ByteArray) else ⟨#[32]⟩)) false=some false:=by split <;> decide
  have hB:((if a=[] then (⟨#[]⟩:ByteArray) else ⟨#[32]⟩).size=0∧T.size=0)∨Behind (if a=[] then (⟨#[]⟩:ByteArray) else ⟨#[32]⟩)∧0<(if a=[] then (⟨#[]⟩:ByteArray) else ⟨#[32]⟩).size:=by
   by_cases ha:a=[]
   ·rw [if_pos ha];exact .inl ⟨rfl,h4 ha⟩
   ·rw [if_neg ha];exact .inr ⟨.inr (.inl (by decide)),by decide⟩
  refine ⟨_,_,spread_step h1 k2 hG hB,?_,?_,by simp⟩
  ·rw [List.map_append,List.map_append,h2,←k1];rfl
  ·rw [jn_snoc,h3,if_neg (show ¬a++[w]=[] by simp)]
termination_by l.length
theorem jn_words {l:List Wd} (hl:∀w∈l,WP w) (hs:(jn l).size≤8192):∃l',wordsS (jn l)=(l',none)∧l'.map erW=l.map erW:=by
 obtain ⟨T,W,h1,h2,h3,h4⟩:=jn_spread l hl
 refine ⟨W,?_,h2⟩
 rw [small_words (by omega),h3]
 by_cases ha:l=[]
 ·rw [if_pos ha]
  exact spread_end (cm:=false) h1 (Or.inl rfl) rfl
 ·rw [if_neg ha]
  exact spread_end (cm:=false) h1 (.inr (.inl (by decide))) (by decide)
/-- A joined text is told as its words are. -/
theorem jn_ref {s:ByteArray} {l l':List Wd} {m m':Mc} (hl:∀w∈l',WP w) (hs:(jn l').size≤8192) (hw:wordsS s=(l,none)) (hg:goM m0 l=(m,[])) (he:endOk m=true) (hg':goM m0 l'=(m',[])) (he':endOk m'=true) (ho:outM m'=outM m):refG s=refG (jn l'):=by
 obtain ⟨l2,h1,h2⟩:=jn_words hl hs
 rw [ref_acc hw hg he,←ho]
 have e1:=er_go l2 m0
 have e2:=er_go l' m0
 rw [h2,e2,hg'] at e1
 cases hg2:goM m0 l2 with
 | mk m2 r2 =>
  rw [hg2] at e1
  injection e1 with e1 e3
  have hr:r2=[]:=by cases r2 with
   | nil=>rfl
   | cons x r=>cases e3
  subst hr
  have he2:endOk m2=true:=by rw [←er_end m2,←e1,er_end];exact he'
  rw [ref_acc h1 hg2 he2]
  have hk:∀m:Mc,keys (erM m)=keys m:=fun m=>by
   unfold keys erM
   simp only [List.map_map]
   refine List.map_congr_left fun r _=>?_
   show rk _ (erR r)=rk _ r
   unfold rk erR
   simp only [List.map_map]
   rfl
  have ho2:∀m:Mc,outM (erM m)=outM m:=fun m=>by unfold outM;rw [hk];rfl
  rw [←ho2 m',e1,ho2]
end Go.Proofs.YtckbgeedlobfaaaDoor

/-
  Chapter 04's laws: joined, good.
-/
namespace Go.Px.Spec
open Go.Px Go.Px.Scan
/-- How long words are, with blanks and quotes. -/
def nW (l:List Wd):Nat:=(l.map fun w=>w.2.1.size+3).sum
theorem nW_snoc (l:List Wd) (w:Wd):nW (l++[w])=nW l+(w.2.1.size+3):=by simp [nW]
theorem wr_size (w:Wd):(wr w).size≤w.2.1.size+2:=by
 unfold wr;split
 ·rw [quo_size];omega
 ·omega
theorem jn_size (l:List Wd):(jn l).size≤nW l:=by
 rcases List.eq_nil_or_concat l with e | ⟨a,w,e⟩
 ·subst e;exact Nat.le_refl _
 ·have e':l=a++[w]:=by simpa using e
  subst e'
  have hlen:a.length<(a++[w]).length:=by simp
  have h1:=jn_size a
  have h2:=wr_size w
  rw [jn_snoc,nW_snoc,ByteArray.size_append,ByteArray.size_append]
  show _+_+1≤_
  omega
termination_by l.length
theorem nW_le {l:List Wd} {k:Nat} (h:∀w∈l,w.2.1.size≤k):nW l≤l.length*(k+3):=by
 induction l with
 | nil=>simp [nW]
 | cons w l ih =>
  have h1:=h w (by simp)
  have h2:=ih fun x hx=>h x (by simp [hx])
  have:nW (w::l)=w.2.1.size+3+nW l:=by simp [nW]
  rw [this,List.length_cons,Nat.succ_mul];omega
end Go.Px.Spec
namespace Go.Proofs.YtckbgeedlobfaaaDoor
open Go.Px Go.Px.Scan Go.Px.Spec Go.RowKit
attribute [-go_sem] Builtin.append_ law04_joined.b3 law04_joined.b7_1 law04_joined.b7_2 law04_good.b3_1 law04_good.b3_2 law04_good.b3 law04_good.b7_1 law04_good.b4

theorem joined_ct {G:Nat→Prop} {W w:World} {L:List Ch} {k:Nat} {A:Option Addr} {c:Nat} {l:List Wd} (s:St G W w L) (hk:L[k]?=some (rowC 46 3 A l.length c (l.flatMap encW))) (hl:l.length≤100000) (hx:∀x∈l,x.2.1.size≤100) :
  Ct Tryd.prog law04_joined.id #[.slice A l.length c] w fun v w'=>v = .string (jn l)∧Chg noB w w':=by
 refine law04_joined.ct fun R hR=>?_
 unfold law04_joined.run
 simp -dsimp [go_sem]
 refine law04_joined.l6_intro _ _ _ _ _ (fun y3 y4 w'=>∃i:Nat,y3 = .string (jn (l.take i))∧y4 = .int .i64 i∧i≤l.length∧Chg noB w w') (fun _ y _=>l.length-iv y) ⟨0,rfl,rfl,by omega,Chg.refl _ _⟩ ?_
 rintro _ _ w1 ⟨i,rfl,rfl,hi,hc⟩ C6 hC
 have s1:=s.old hc
 simp -dsimp [go_sem]
 refine SPL_intro (fun p1=>?_) (fun p1=>?_) <;> simp at p1
 ·obtain ⟨_,g,rfl,e0,e1,e2⟩:=word_at s1 hk p1
  have wi:IntKind.i64.wrap ((i:Int)+1)=(i:Int)+1:=IntWalk.i64_in _ (by omega)
  have hxi:=hx _ (List.getElem_mem p1)
  have hwv:Value.agg #[.int .i64 l[i].1,.string l[i].2.1,.int .i64 l[i].2.2]=wdV l[i]:=rfl
  have hb:(jn (l.take i)).size≤10300000:=by
   have h1:=jn_size (l.take i)
   have h2:=nW_le (l:=l.take i) (k:=100) fun w hw=>hx w (List.mem_of_mem_take hw)
   rw [List.length_take] at h2;omega
  have hw:=wr_size l[i]
  unfold law04_joined.b7_2
  simp -dsimp [go_sem,p1,Nat.not_le.2 p1,e0,e1,e2]
  rw [hwv]
  refine CALL_of (written_ct hxi) ?_
  rintro _ w2 ⟨rfl,hc2⟩
  have z1:(⟨#[32]⟩:ByteArray).size=1:=rfl
  unfold law04_joined.b7_1
  rw [RUN_eq,addS _ _ (by unfold maxLen;omega),RES_ok,RUN_eq,addS _ _ (by rw [ByteArray.size_append,z1];unfold maxLen;omega),RES_ok]
  simp -dsimp [go_sem,wi]
  refine hC _ _ _ ⟨i+1,?_,by simp,p1,hc.trans hc2⟩ (by simp [iv];omega)
  rw [List.take_succ_eq_append_getElem p1,jn_snoc]
 ·have hil:i=l.length:=by omega
  unfold law04_joined.b3
  refine hR _ _ ⟨?_,hc⟩
  rw [hil,List.take_length]

theorem good_ct {s:ByteArray} {m:Nat} {w:World} {B:Nat} (hs:s.size≤maxLen) (hm:m≤10000) (hO:Ord w B) (hB:B≤w.heap.size) :
  Ct Tryd.prog law04_good.id #[.string s,.int .i64 m] w fun v w'=>∃A c,v = .tuple #[.slice A (wordsS s).1.length c,.bool (decide ((wordsS s).2=none∧badS s<0∧nW (wordsS s).1+m≤8192))]∧St noB w w' [rowC 46 3 A (wordsS s).1.length c ((wordsS s).1.flatMap encW)]:=by
 refine law04_good.ct fun R hR=>?_
 unfold law04_good.run law04_good.b1
 refine CALL_of (refAll_ct hs w) ?_
 rintro _ w1 ⟨A,c,rfl,s1⟩
 have hlen:=words_len s
 have hwx:∀x∈(wordsS s).1,x.2.1.size≤16:=fun x hx=>word_sz hx
 generalize hl:(wordsS s).1=l at *
 unfold law04_good.b1_1
 simp -dsimp [go_sem]
 unfold law04_good.b4
 refine law04_good.l6_intro _ _ _ _ _ _ _ _ (fun y8 y9 w'=>∃i:Nat,y8 = .int .i64 (nW (l.take i))∧y9 = .int .i64 i∧i≤l.length∧St noB w w' [rowC 46 3 A l.length c (l.flatMap encW)]) (fun _ y _=>l.length-iv y) ⟨0,rfl,rfl,by omega,s1⟩ ?_
 rintro _ _ w2 ⟨i,rfl,rfl,hi,s2⟩ C6 hC
 simp -dsimp [go_sem]
 refine SPL_intro (fun p1=>?_) (fun p1=>?_) <;> simp at p1
 ·obtain ⟨_,g,rfl,e0,e1,e2⟩:=word_at s2 (k:=0) rfl p1
  have wi:IntKind.i64.wrap ((i:Int)+1)=(i:Int)+1:=IntWalk.i64_in _ (by omega)
  have hxi:=hwx _ (List.getElem_mem p1)
  have h2:=nW_le (l:=l.take i) (k:=16) fun w hw=>hwx w (List.mem_of_mem_take hw)
  rw [List.length_take] at h2
  have w1:IntKind.i64.wrap ((nW (l.take i):Int)+l[i].2.1.size)=(nW (l.take i):Int)+l[i].2.1.size:=IntWalk.i64_in _ (by omega)
  have w2:IntKind.i64.wrap ((nW (l.take i):Int)+l[i].2.1.size+3)=(nW (l.take i):Int)+l[i].2.1.size+3:=IntWalk.i64_in _ (by omega)
  unfold law04_good.b7_1
  simp -dsimp [go_sem,p1,Nat.not_le.2 p1,e1,wi,w1,w2]
  refine hC _ _ _ ⟨i+1,?_,by simp,p1,s2⟩ (by simp [iv];omega)
  rw [List.take_succ_eq_append_getElem p1,nW_snoc]
  simp [Int.add_assoc]
 ·have hil:i=l.length:=by omega
  subst hil
  rw [List.take_length]
  have hn:nW l≤l.length*19:=nW_le hwx
  have o2:=hO.chg s2.chg hB fun _ _=>id
  have hB2:B≤w2.heap.size:=by have:=s2.chg.size;omega
  unfold law04_good.b3
  cases hb:(wordsS s).2 with
  | some k =>
   have hk0:¬((k:Int)<0):=by omega
   unfold badV
   simp -dsimp [go_sem,hk0]
   exact hR _ _ ⟨A,c,by simp [hb],s2⟩
  | none =>
   unfold badV
   simp -dsimp [go_sem]
   unfold law04_good.b3_2
   refine CALL_of (Bad_ct hs o2 hB2) ?_
   rintro _ w3 ⟨rfl,hc3⟩
   simp -dsimp [go_sem]
   have wn:IntKind.i64.wrap ((nW l:Int)+m)=(nW l:Int)+m:=IntWalk.i64_in _ (by omega)
   refine SPL_intro (fun p2=>?_) (fun p2=>?_) <;> simp at p2
   ·unfold law04_good.b3_1
    simp -dsimp [go_sem,wn]
    refine hR _ _ ⟨A,c,?_,s2.old hc3⟩
    have e:((nW l:Int)+m≤8192)↔nW l+m≤8192:=by omega
    simp [p2,hb,e]
   ·have:¬badS s<0:=by omega
    refine hR _ _ ⟨A,c,?_,s2.old hc3⟩
    simp [this,hb]
end Go.Proofs.YtckbgeedlobfaaaDoor

/-
  SpecQuotes.
-/
namespace Go.Px.Spec
open Go.Px Go.Px.Scan
/-- Does %start stand ahead of a place? -/
def prevS (l:List Wd):Nat→Bool
 | 0=>false
 | j+1=>((l[j]?).map fun w=>isOr w kStart).getD false
theorem prevS_succ {l:List Wd} {i:Nat} (h:i<l.length):prevS l (i+1)=isOr l[i] kStart:=by simp [prevS,List.getElem?_eq_getElem h]
theorem isCol_at {l:List Wd} {i:Nat} (h:i<l.length):isCol (l.drop i)=isSg l[i] sColon:=by rw [List.drop_eq_getElem_cons h];rfl
theorem isCol_end {l:List Wd} {i:Nat} (h:l.length≤i):isCol (l.drop i)=false:=by rw [List.drop_eq_nil_of_le h];rfl
theorem qL_at {L l:List Wd} {p:Bool} {i:Nat} (h:i<l.length):qL L p (l.drop i)=(if l[i].1=1∧isCol (l.drop (i+1))=false∧p=false∧nonQ L l[i].2.1=false then (2,l[i].2.1,l[i].2.2) else l[i])::qL L (isOr l[i] kStart) (l.drop (i+1)):=by
 rw [List.drop_eq_getElem_cons h,qL]
theorem nonQ_at {l:List Wd} {t:ByteArray} {i:Nat} (h:i<l.length):nonQ (l.drop i) t=(decide (l[i].1=1∧l[i].2.1=t) && isCol (l.drop (i+1)) || nonQ (l.drop (i+1)) t):=by
 rw [List.drop_eq_getElem_cons h,nonQ]
theorem nonQ_end {l:List Wd} {t:ByteArray} {i:Nat} (h:l.length≤i+1):nonQ (l.drop i) t=false:=by
 by_cases hi:i<l.length
 ·rw [nonQ_at hi,isCol_end h,List.drop_eq_nil_of_le h];simp [nonQ]
 ·rw [List.drop_eq_nil_of_le (by omega)];rfl
end Go.Px.Spec
namespace Go.Proofs.YtckbgeedlobfaaaDoor
open Go.Px Go.Px.Scan Go.Px.Spec Go.RowKit
attribute [-go_sem] Builtin.append_ law04_SpecQuotes.b3 law04_SpecQuotes.b9 law04_SpecQuotes.b16 law04_SpecQuotes.b18_1 law04_SpecQuotes.b18 law04_SpecQuotes.b17_1 law04_SpecQuotes.b17 law04_SpecQuotes.b23 law04_SpecQuotes.b22_1 law04_SpecQuotes.b22_2 law04_SpecQuotes.b22_3 law04_SpecQuotes.b22_4 law04_SpecQuotes.b22 law04_SpecQuotes.b19 law04_SpecQuotes.b13 law04_SpecQuotes.b12_1 law04_SpecQuotes.b12_2 law04_SpecQuotes.b12 law04_SpecQuotes.b11_1 law04_SpecQuotes.b11_2 law04_SpecQuotes.b11 law04_SpecQuotes.b7 law04_SpecQuotes.b4 law04_SpecQuotes.b1_1

theorem len_enc (l:List Wd):(l.flatMap encW).length=l.length*3:=by
 induction l with
 | nil=>rfl
 | cons x l ih=>rw [List.flatMap_cons,List.length_append,ih,List.length_cons];show 3+_=_;omega

section
variable {w1 w:World} {R:EP} {C6:VP→Value→VP} {C21:Value→VP} {A Ao:Option Addr} {c co:Nat} {l out:List Wd} {i:Nat}
/-- The words, those that are made, and the word that is looked at. -/
def qLst (A:Option Addr) (c:Nat) (l:List Wd) (Ao:Option Addr) (co:Nat) (out:List Wd) (b:Nat) (x:Wd):List Ch :=
 [rowC 46 3 A l.length c (l.flatMap encW),rowC 46 3 Ao out.length co (out.flatMap encW),boxC b 46 (encW x)]

/-- The word is laid to the others. -/
theorem quotes16 {C:Value→VP} {b:Nat} {x:Wd} (hl:out.length≤8192) (hi:i≤8192) (s:St noB w1 w (qLst A c l Ao co out b x))
  (hC:∀A' c' w',St noB w1 w' [rowC 46 3 A l.length c (l.flatMap encW),rowC 46 3 A' (out++[x]).length c' ((out++[x]).flatMap encW)]→C (.slice A' (out++[x]).length c') (.int .i64 ((i+1:Nat):Int)) w') :
  law04_SpecQuotes.b16 R C (.slice Ao out.length co) (.int .i64 i) (.pointer (some ⟨b,0,none⟩)) w:=by
 have y:=(s.box 2 rfl).1
 simp [boxAt,encW] at y
 unfold law04_SpecQuotes.b16
 simp -dsimp [go_sem,y]
 have ho:=len_enc out
 refine s.append1 1 rfl Tryd.underlying41 info42 rfl (by omega) (news:=[.int .i64 x.1,.string x.2.1,.int .i64 x.2.2]) rfl (by simp [Value.oneCell']) (by unfold maxLen;omega) (by unfold maxBytes;omega) ?_
 intro g' cap w' s'
 have wi:IntKind.i64.wrap ((i:Int)+1)=(i:Int)+1:=IntWalk.i64_in _ (by omega)
 unfold law04_SpecQuotes.b9
 simp -dsimp [go_sem,wi]
 have e1:(out++[x]).length=out.length+1:=by simp
 have e2:(out++[x]).flatMap encW=out.flatMap encW++[.int .i64 x.1,.string x.2.1,.int .i64 x.2.2]:=by simp [encW]
 have s2:=s'.pick (L':=[rowC 46 3 A l.length c (l.flatMap encW),rowC 46 3 (some ⟨g',0,none⟩) (out.length+1) cap (out.flatMap encW++[.int .i64 x.1,.string x.2.1,.int .i64 x.2.2])]) [0,1] (by decide) rfl
 rw [←e2,←e1] at s2
 have:=hC _ _ _ s2
 rw [e1] at this
 simpa using this

/-- The word is quoted or not. -/
theorem quotes17 {C:Value→VP} {b:Nat} {x:Wd} {lf st nn:Bool} (hl:out.length≤8192) (hi:i≤8192) (s:St noB w1 w (qLst A c l Ao co out b x))
  (hC:∀A' c' w' x',x'=(if x.1=1∧lf=false∧st=false∧nn=false then (2,x.2.1,x.2.2) else x)→St noB w1 w' [rowC 46 3 A l.length c (l.flatMap encW),rowC 46 3 A' (out++[x']).length c' ((out++[x']).flatMap encW)]→C (.slice A' (out++[x']).length c') (.int .i64 ((i+1:Nat):Int)) w') :
  law04_SpecQuotes.b17 R C (.slice Ao out.length co) (.int .i64 i) (.pointer (some ⟨b,0,none⟩)) (.bool lf) (.bool st) (.bool nn) w:=by
 have y:=(s.box 2 rfl).1
 simp [boxAt,encW] at y
 have no:¬(x.1=1∧lf=false∧st=false∧nn=false)→law04_SpecQuotes.b18 R C (.slice Ao out.length co) (.int .i64 i) (.pointer (some ⟨b,0,none⟩)) (.bool false) w:=fun h=>by
  unfold law04_SpecQuotes.b18
  simp -dsimp [go_sem]
  exact quotes16 hl hi s fun A' c' w' s'=>hC A' c' w' x (by rw [if_neg h]) s'
 unfold law04_SpecQuotes.b17
 simp -dsimp [go_sem,y]
 refine SPL_intro (fun h1=>?_) (fun h1=>?_) <;> simp at h1
 ·cases lf with
  | true=>simp -dsimp [go_sem];exact no (by simp)
  | false =>
   simp -dsimp [go_sem]
   unfold law04_SpecQuotes.b17_1
   cases st with
   | true=>simp -dsimp [go_sem];exact no (by simp)
   | false =>
    simp -dsimp [go_sem]
    cases nn with
    | true=>exact no (by simp)
    | false =>
     have hs:=s.set 2 rfl 0 (.int .i64 2)
     have yf:=(s.box 2 rfl).2.1 0
     unfold law04_SpecQuotes.b18
     simp -dsimp [go_sem]
     unfold law04_SpecQuotes.b18_1
     simp -dsimp [go_sem,y,yf]
     exact quotes16 (x:=(2,x.2.1,x.2.2)) hl hi hs fun A' c' w' s'=>hC A' c' w' _ (by rw [if_pos ⟨h1,rfl,rfl,rfl⟩]) s'
 ·exact no fun h=>h1 h.1

/-- Is it a rule's name? -/
theorem quotes13 {C:Value→VP} {b:Nat} {x:Wd} {lf st:Bool} (hll:l.length≤8192) (hl:out.length≤8192) (hi:i≤8192) (s:St noB w1 w (qLst A c l Ao co out b x))
  (hC:∀A' c' w' x',x'=(if x.1=1∧lf=false∧st=false∧nonQ l x.2.1=false then (2,x.2.1,x.2.2) else x)→St noB w1 w' [rowC 46 3 A l.length c (l.flatMap encW),rowC 46 3 A' (out++[x']).length c' ((out++[x']).flatMap encW)]→C (.slice A' (out++[x']).length c') (.int .i64 ((i+1:Nat):Int)) w') :
  law04_SpecQuotes.b13 R C (.slice A l.length c) (.slice Ao out.length co) (.int .i64 i) (.pointer (some ⟨b,0,none⟩)) (.bool lf) (.bool st) w:=by
 unfold law04_SpecQuotes.b13 law04_SpecQuotes.b19
 refine law04_SpecQuotes.l21_intro _ _ _ _ _ _ _ _ _ _ _ (fun y11 y12 w'=>∃(k:Nat) (nn:Bool),y11 = .bool nn∧y12 = .int .i64 k∧(nn || nonQ (l.drop k) x.2.1)=nonQ l x.2.1∧k≤l.length∧St noB w1 w' (qLst A c l Ao co out b x))
  (fun _ y _=>l.length-iv y) ⟨0,false,rfl,rfl,by simp,by omega,s⟩ ?_
 rintro _ _ w2 ⟨k,nn,rfl,rfl,hnn,hk,s2⟩ C21 hC21
 have s2d:=s2.old (Chg.refl noB w2).drew
 have wk:IntKind.i64.wrap ((k:Int)+1)=(k:Int)+1:=IntWalk.i64_in _ (by omega)
 unfold law04_SpecQuotes.b22
 simp -dsimp [go_sem,wk]
 refine SPL_intro (fun p1=>?_) (fun p1=>?_)
 ·have p1:k+1<l.length:=by simp at p1;omega
  have step:∀nn',(nn' || nonQ (l.drop (k+1)) x.2.1)=nonQ l x.2.1→law04_SpecQuotes.b23 R C C21 (.bool nn') (.int .i64 k) w2.drew:=fun nn' h=>by
   unfold law04_SpecQuotes.b23
   simp -dsimp [go_sem,wk]
   exact hC21 _ _ _ ⟨k+1,nn',rfl,by simp,h,by omega,s2d⟩ (by simp [iv];omega)
  rw [nonQ_at (by omega),isCol_at p1] at hnn
  cases nn with
  | true =>
   simp -dsimp [go_sem]
   exact step true (by simpa using hnn)
  | false =>
   simp -dsimp [go_sem]
   obtain ⟨_,g,rfl,e0,e1,e2⟩:=word_at s2d (k:=0) (i:=k) rfl (by omega)
   obtain ⟨_,g',hg',f0,f1,f2⟩:=word_at s2d (k:=0) (i:=k+1) rfl p1
   injection hg' with hg';injection hg' with hg';subst hg'
   have yd:=(s2d.box 2 rfl).1
   simp [boxAt,encW] at yd
   have q0:(k:Int)<l.length:=by omega
   have q1:(k:Int)+1<l.length:=by omega
   have t1:((k:Int)+1).toNat=k+1:=by omega
   have t2:(0:Int)≤(k:Int)+1:=by omega
   unfold law04_SpecQuotes.b22_4
   simp -dsimp [go_sem,q0,e0,e1,show k<l.length by omega]
   refine SPL_intro (fun h1=>?_) (fun h1=>?_) <;> simp at h1
   ·unfold law04_SpecQuotes.b22_3
    simp -dsimp [go_sem,q0,e0,e1,yd,show k<l.length by omega]
    refine SPL_intro (fun h2=>?_) (fun h2=>?_)
    ·have h2:l[k].2.1=x.2.1:=by simpa [toList_inj] using h2
     unfold law04_SpecQuotes.b22_2
     simp -dsimp [go_sem,wk,q1,t1,t2,f0,f1]
     refine SPL_intro (fun h3=>?_) (fun h3=>?_) <;> simp at h3
     ·unfold law04_SpecQuotes.b22_1
      simp -dsimp [go_sem,wk,q1,t1,t2,f0,f1]
      refine step _ ?_
      rw [←hnn]
      have:(l[k+1].2.1.toList == [58])=decide (l[k+1].2.1=sColon):=by
       rw [Bool.eq_iff_iff];simp [←toList_inj,show sColon.toList=[58] by decide +kernel]
      simp [h1,h2,isSg,h3]
      rw [this]
     ·refine step false ?_
      rw [←hnn];simp [isSg,h3]
    ·have h2:¬l[k].2.1=x.2.1:=by simpa [toList_inj] using h2
     refine step false ?_
     rw [←hnn];simp [h2]
   ·refine step false ?_
    rw [←hnn];simp [h1]
 ·have p1:l.length≤k+1:=by simp at p1;omega
  rw [nonQ_end p1,Bool.or_false] at hnn
  subst hnn
  exact quotes17 hl hi s2 hC
end
end Go.Proofs.YtckbgeedlobfaaaDoor

/-
  SpecQuotes: the law.
-/
namespace Go.Proofs.YtckbgeedlobfaaaDoor
open Go.Px Go.Px.Scan Go.Px.Spec Go.RowKit
attribute [-go_sem] Builtin.append_ law04_SpecQuotes.b3 law04_SpecQuotes.b9 law04_SpecQuotes.b16 law04_SpecQuotes.b18_1 law04_SpecQuotes.b18 law04_SpecQuotes.b17_1 law04_SpecQuotes.b17 law04_SpecQuotes.b13 law04_SpecQuotes.b12_1 law04_SpecQuotes.b12_2 law04_SpecQuotes.b12 law04_SpecQuotes.b11_1 law04_SpecQuotes.b11_2 law04_SpecQuotes.b11 law04_SpecQuotes.b7 law04_SpecQuotes.b4 law04_SpecQuotes.b1_1

theorem col_text (t:ByteArray):(t.toList == [58])=decide (t=sColon):=by
 rw [Bool.eq_iff_iff];simp [←toList_inj,show sColon.toList=[58] by decide +kernel]
theorem start_text (t:ByteArray):(t.toList == [37,115,116,97,114,116])=decide (t=kStart):=by
 rw [Bool.eq_iff_iff];simp [←toList_inj,show kStart.toList=[37,115,116,97,114,116] by decide +kernel]

section
variable {w1 w:World} {R:EP} {A Ao:Option Addr} {c co:Nat} {l out:List Wd} {i:Nat}
theorem quotes12 {C:Value→VP} {b:Nat} {x:Wd} {lf:Bool} (hll:l.length≤8192) (hl:out.length≤8192) (hi:i<l.length) (s:St noB w1 w (qLst A c l Ao co out b x))
  (hC:∀A' c' w' x',x'=(if x.1=1∧lf=false∧prevS l i=false∧nonQ l x.2.1=false then (2,x.2.1,x.2.2) else x)→St noB w1 w' [rowC 46 3 A l.length c (l.flatMap encW),rowC 46 3 A' (out++[x']).length c' ((out++[x']).flatMap encW)]→C (.slice A' (out++[x']).length c') (.int .i64 ((i+1:Nat):Int)) w') :
  law04_SpecQuotes.b12 R C (.slice A l.length c) (.slice Ao out.length co) (.int .i64 i) (.pointer (some ⟨b,0,none⟩)) (.bool lf) w:=by
 have go:∀st,st=prevS l i→law04_SpecQuotes.b13 R C (.slice A l.length c) (.slice Ao out.length co) (.int .i64 i) (.pointer (some ⟨b,0,none⟩)) (.bool lf) (.bool st) w:=fun st hst=>by
  subst hst;exact quotes13 hll hl (by omega) s hC
 unfold law04_SpecQuotes.b12
 cases i with
 | zero=>simp -dsimp [go_sem];exact go false rfl
 | succ j =>
  rw [prevS_succ (by omega)] at go
  obtain ⟨_,g,rfl,e0,e1,e2⟩:=word_at s (k:=0) (i:=j) rfl (by omega)
  have wj:IntKind.i64.wrap (j:Int)=(j:Int):=IntWalk.i64_in _ (by omega)
  have p0:(0:Int)<(j:Int)+1:=by omega
  have q0:(j:Int)<l.length:=by omega
  have q1:j<l.length:=by omega
  unfold law04_SpecQuotes.b12_2
  simp -dsimp [go_sem,p0,wj,q0,q1,e0]
  refine SPL_intro (fun h1=>?_) (fun h1=>?_) <;> simp at h1
  ·unfold law04_SpecQuotes.b12_1
   simp -dsimp [go_sem,wj,q0,q1,e1]
   exact go _ (by rw [start_text];simp [isOr,h1])
  ·exact go _ (by simp [isOr,h1])

theorem quotes11 {C:Value→VP} (hll:l.length≤8192) (hl:out.length≤8192) (hi:i<l.length) (s:St noB w1 w [rowC 46 3 A l.length c (l.flatMap encW),rowC 46 3 Ao out.length co (out.flatMap encW)])
  (hC:∀A' c' w' x',x'=(if l[i].1=1∧isCol (l.drop (i+1))=false∧prevS l i=false∧nonQ l l[i].2.1=false then (2,l[i].2.1,l[i].2.2) else l[i])→St noB w1 w' [rowC 46 3 A l.length c (l.flatMap encW),rowC 46 3 A' (out++[x']).length c' ((out++[x']).flatMap encW)]→C (.slice A' (out++[x']).length c') (.int .i64 ((i+1:Nat):Int)) w') :
  law04_SpecQuotes.b11 R C (.slice A l.length c) (.slice Ao out.length co) (.int .i64 i) w:=by
 obtain ⟨_,g,rfl,e0,e1,e2⟩:=word_at s (k:=0) (i:=i) rfl hi
 have wi:IntKind.i64.wrap ((i:Int)+1)=(i:Int)+1:=IntWalk.i64_in _ (by omega)
 have s1:=s.alloc #[.int .i64 l[i].1,.string l[i].2.1,.int .i64 l[i].2.2] 46
 have y1:=(s1.box 2 rfl).2.1
 have q0:(i:Int)<l.length:=by omega
 unfold law04_SpecQuotes.b11
 simp -dsimp [go_sem,q0,hi,e0,e1,e2,wi]
 generalize w.alloc (.cells #[.int .i64 l[i].1,.string l[i].2.1,.int .i64 l[i].2.2] 46)=w2 at s1 y1 ⊢
 generalize w.heap.size=b at s1 y1 ⊢
 have go:∀lf,lf=isCol (l.drop (i+1))→law04_SpecQuotes.b12 R C (.slice (some ⟨g,0,none⟩) l.length c) (.slice Ao out.length co) (.int .i64 i) (.pointer (some ⟨b,0,none⟩)) (.bool lf) w2:=fun lf hlf=>by
  subst hlf;exact quotes12 hll hl hi s1 hC
 refine SPL_intro (fun p1=>?_) (fun p1=>?_)
 ·have p1:i+1<l.length:=by simp at p1;omega
  rw [isCol_at p1] at go
  obtain ⟨_,g',hg',f0,f1,f2⟩:=word_at s1 (k:=0) (i:=i+1) rfl p1
  injection hg' with hg';injection hg' with hg';subst hg'
  have q1:(i:Int)+1<l.length:=by omega
  have t1:((i:Int)+1).toNat=i+1:=by omega
  have t2:(0:Int)≤(i:Int)+1:=by omega
  unfold law04_SpecQuotes.b11_2
  simp -dsimp [go_sem,wi,q1,t1,t2,f0,f1]
  refine SPL_intro (fun h1=>?_) (fun h1=>?_) <;> simp at h1
  ·unfold law04_SpecQuotes.b11_1
   simp -dsimp [go_sem,wi,q1,t1,t2,f0,f1]
   exact go _ (by rw [col_text];simp [isSg,h1])
  ·exact go _ (by simp [isSg,h1])
 ·have p1:l.length≤i+1:=by simp at p1;omega
  exact go _ (isCol_end p1).symm
end

theorem nW_quote {L:List Wd}:∀(l:List Wd) (p:Bool),nW (qL L p l)=nW l:=fun l=>by
 induction l with
 | nil=>exact fun _=>rfl
 | cons w l ih =>
  intro p
  have e:∀(w:Wd) l,nW (w::l)=w.2.1.size+3+nW l:=fun w l=>by simp [nW]
  rw [qL,e,e,ih]
  split <;> rfl

theorem qL_wp {L:List Wd}:∀(l:List Wd) (p:Bool),(∀w∈l,WP w)→∀w∈qL L p l,WP w:=fun l=>by
 induction l with
 | nil=>intro p _ w hw;cases hw
 | cons x l ih =>
  intro p h w hw
  rw [qL] at hw
  rcases List.mem_cons.1 hw with rfl | hw
  ·have hx:=h x (by simp)
   split
   ·rename_i hc
    exact ⟨by simp,fun _=>(hx.1 hc.1).term,by simp,by simp,by simp,hx.2.2.2.2.2⟩
   ·exact hx
  ·exact ih _ (fun y hy=>h y (by simp [hy])) w hw

/-- What SpecQuotes says, plainly. -/
theorem quotes_ref {s:ByteArray} {l:List Wd} (hw:wordsS s=(l,none)) (hb:badS s<0) (hn:nW l≤8192):refG s=refG (jn (qL l false l)):=by
 obtain ⟨_,m,hg,he⟩:=bad_acc hb
 rw [hw] at hg
 have hwp:=words_wp s
 rw [hw] at hwp
 have hls:∀x,nonQ l x=false→x∉dd m.lefts:=fun x hx hm=>by
  rcases go_lefts hg he x (mem_dd.1 hm) with h | h
  ·simp [m0] at h
  ·rw [hx] at h;cases h
 obtain ⟨m',g1,g2,g3⟩:=quote_out hg he (qL_rel hls l false)
 refine jn_ref (qL_wp l false hwp) ?_ hw hg he g1 g2 g3
 have:=jn_size (qL l false l)
 rw [nW_quote] at this;omega

theorem SpecQuotes_ct {s:ByteArray} {w:World} {B:Nat} (hs:s.size≤maxLen) (hO:Ord w B) (hB:B≤w.heap.size) :
  Ct Tryd.prog law04_SpecQuotes.id #[.string s] w fun v w'=>v = .bool true∧Chg noB w w':=by
 refine law04_SpecQuotes.ct fun R hR=>?_
 unfold law04_SpecQuotes.run law04_SpecQuotes.b1
 refine CALL_of (awake_ct hO hB) ?_
 rintro _ w1 ⟨rfl,hc1⟩
 have ord:∀w',Chg noB w1 w'→Ord w' B∧B≤w'.heap.size:=fun w' hc=>⟨hO.chg (hc1.trans hc) hB fun _ _=>id,by have:=(hc1.trans hc).size;omega⟩
 have fin:∀w',Chg noB w1 w'→R (.returned (.bool true)) w':=fun w' hc=>hR _ _ ⟨rfl,hc1.trans hc⟩
 have o1:=ord w1 (Chg.refl _ _)
 refine CALL_of (good_ct (m:=0) hs (by omega) o1.1 o1.2) ?_
 rintro _ w2 ⟨A,c,rfl,s2⟩
 have hlen:=words_len s
 have hwp:=words_wp s
 have hws:∀x∈(wordsS s).1,x.2.1.size≤16:=fun x hx=>word_sz hx
 unfold law04_SpecQuotes.b1_1
 simp -dsimp [go_sem]
 refine SPL_intro (fun h=>?_) (fun h=>?_)
 ·exact fin _ s2.chg
 have h:(wordsS s).2=none∧badS s<0∧nW (wordsS s).1≤8192:=by simpa using h
 obtain ⟨h1,h2,h3⟩:=h
 obtain ⟨l,hl⟩:∃l,wordsS s=(l,none):=⟨(wordsS s).1,by rw [←h1]⟩
 have href:=quotes_ref hl h2 (by rw [hl] at h3;exact h3)
 rw [hl] at s2 hlen hwp hws h3 ⊢
 have hlen:l.length≤8192:=hlen
 have s3:=s2.nilRow 46 3
 unfold law04_SpecQuotes.b4
 refine law04_SpecQuotes.l6_intro _ _ _ _ _ _ _ (fun y6 y7 w'=>∃(i:Nat) (out:List Wd) (Ao:Option Addr) (co:Nat),y6 = .slice Ao out.length co∧y7 = .int .i64 i∧i≤l.length∧out.length=i∧out++qL l (prevS l i) (l.drop i)=qL l false l ∧
   St noB w1 w' [rowC 46 3 A l.length c (l.flatMap encW),rowC 46 3 Ao out.length co (out.flatMap encW)])
  (fun _ y _=>l.length-iv y) ⟨0,[],none,0,rfl,rfl,by omega,rfl,rfl,s3⟩ ?_
 rintro _ _ w4 ⟨i,out,Ao,co,rfl,rfl,hi,hol,hout,s4⟩ C6 hC
 unfold law04_SpecQuotes.b7
 simp -dsimp [go_sem]
 refine SPL_intro (fun p1=>?_) (fun p1=>?_) <;> simp at p1
 ·refine quotes11 hlen (by omega) p1 s4 fun A' c' w' x' hx' s'=>?_
  refine hC _ _ _ ⟨i+1,out++[x'],A',c',rfl,rfl,p1,by simp [hol],?_,s'⟩ (by simp [iv];omega)
  rw [←hout,qL_at p1,←hx',prevS_succ p1,List.append_assoc];rfl
 ·have hil:i=l.length:=by omega
  rw [hil,List.drop_length] at hout
  have hout:out=qL l false l:=by simpa [qL] using hout
  have hwx:∀x∈out,x.2.1.size≤100:=fun x hx=>by
   rw [hout] at hx
   have hq:∀(l':List Wd) (p:Bool),(∀x∈l',x.2.1.size≤16)→∀x∈qL l p l',x.2.1.size≤16:=fun l'=>by
    induction l' with
    | nil=>intro p _ x hx;cases hx
    | cons y l' ih =>
     intro p h x hx
     rw [qL] at hx
     rcases List.mem_cons.1 hx with rfl | hx
     ·split
      ·exact h y (by simp)
      ·exact h y (by simp)
     ·exact ih _ (fun z hz=>h z (by simp [hz])) x hx
   have:=hq l false hws x hx;omega
  unfold law04_SpecQuotes.b3
  refine CALL_of (joined_ct s4 (k:=1) rfl (by omega) hwx) ?_
  rintro _ w5 ⟨rfl,hc5⟩
  have hc5':=s4.chg.trans hc5
  have o5:=ord w5 hc5'
  have hj:=jn_size out
  have hn:nW out≤8192:=by rw [hout,nW_quote];exact h3
  refine CALL_of (alike_ct hs (t:=jn out) (by unfold maxLen;omega) o5.1 o5.2) ?_
  rintro _ w6 ⟨rfl,hc6⟩
  rw [hout,←href,eqB_of rfl]
  simp -dsimp [go_sem]
  exact fin _ (hc5'.trans hc6)
end Go.Proofs.YtckbgeedlobfaaaDoor

/-
  The law SpecQuotes returns true for every text whose bulk is at most 1048576, and nothing that was there before the call has turned: the tied card of the second form; its condition is that scan.orders holds its seven texts when the call begins, and no argument takes more than a machine has.
-/
namespace Go.Proofs.YtckbgeedlobfaaaDoor.specQuotes
open Go.Px Go.ChangeShapes Go.WideShapes Go.ChangeAt Go.RowKit Go.Px.Scan

set_option maxRecDepth 100000 in
theorem contract (H:Type) (enc:TypeId×Value→H) (W:World) (base:Nat) (args:Array Value) (ds gs:List (DataW H)) (before:List MemPlace)
  (hval:∀(j:Nat) t v,Tryd.f8.params[j]?=some t→args[j]?=some v→Value.okWide Tryd.prog W .any base t v)
  (hW:DataW.Whole enc Tryd.prog Tryd.f8.params.toList Rows.specQuotesSpec.vars false W args.toList ds gs before)
  (hup:Rows.uptoSmall H (ds++gs)=true)
  (hwt:(DataW.weightsEach Tryd.prog (Tryd.f8.params.toList++(Rows.OpenSpec.upto Rows.specQuotesSpec).bare.plain.varTypes Tryd.prog) (ds++gs)).all (·≤reachBytes)=true) (hL:laidMetH Tryd.prog Rows.specQuotesUptoRow.laid W) :
  Calls Tryd.prog 8 args W fun e W'=>∃v,e = .returned v∧Rows.specQuotesSpec.post enc Tryd.prog Tryd.f8 false true false false W args v W':=by
 have hW':=hW
 obtain ⟨p,q,hA0,hV,rfl,hfz,hnd⟩:=hW
 have hA:DataW.TrodAll enc Tryd.prog W 0 (fun _=>true) true Tryd.f8.params.toList args.toList ds p:=hA0
 rw [Tryd.params8] at hA hval hwt
 obtain ⟨v0,vs0,d0,ds0,p0,q0,hargs0,rfl,rfl,h0,r0⟩:=trodAll_cons hA
 obtain ⟨rfl,rfl,rfl⟩:=trodAll_nil r0
 obtain rfl:args=#[v0]:=by cases args;simp_all
 obtain ⟨rfl,rfl⟩:=trodVars_none hV
 have hwt':(DataW.weightsEach Tryd.prog ([9]++[]) ([d0]++[])).all (·≤reachBytes)=true:=hwt
 simp only [List.append_nil,DataW.weightsEach,List.all_append,Bool.and_eq_true] at hwt'
 have ec0:v0.cells=#[v0]:=by obtain ⟨_,rfl⟩:=okWide_string Tryd.underlying9 (hval 0 9 v0 rfl rfl);rfl
 obtain ⟨a0,ha0,hf0,hb0⟩:=open_arg1 opens9 ec0 h0
 have hf0:=hf0 hwt'
 obtain ⟨rfl,hs0⟩:=str_at1 ha0
 have hO:=ord_of_laid hL
 refine (SpecQuotes_ct hs0 hO (Nat.le_refl _)).2.mono fun e W' he=>?_
 cases e with
 | returned v =>
  obtain ⟨rfl,hb⟩:=he
  exact ⟨_,rfl,law_post (t:=4) (by kernel_rfl) (fun t ht=>by
   rw [Tryd.params8] at ht
   simp only [List.mem_cons,List.not_mem_nil,or_false] at ht
   rcases ht with rfl <;> exact ⟨by kernel_rfl,by decide +kernel⟩) rfl Tryd.underlying4 rfl hW' rfl rfl rfl (hb.below (Nat.le_refl _) fun _ _=>id)⟩
 | _=>exact he.elim

theorem reads (os:Os) {H:Type} (enc:TypeId×Value→H):∃places,DataW.whole enc Tryd.prog ((laidWorld os).forCall (fun _ _=>0) ⟨#[],#[.string ⟨#[]⟩],[]⟩).memory Tryd.f8.params.toList Rows.specQuotesSpec.vars false #[.string ⟨#[]⟩].toList 8=some ([.lit (.string [])],[],places) :=
 ⟨[],by kernel_rfl⟩

set_option maxRecDepth 100000 in
theorem lifted (os:Os) (started:os.Started) (H:Type) (enc:TypeId×Value→H) (F:Stop.Interp) :
  ReturnsInHanded {} Tryd.checked os 8 .any ((Rows.OpenSpec.upto Rows.specQuotesSpec).preRow enc Tryd.prog Tryd.f8 Rows.specQuotesUptoRow.domain false Rows.specQuotesUptoRow.laid) (((Rows.OpenSpec.upto Rows.specQuotesSpec).at F).post enc Tryd.prog Tryd.f8 false true false false):=by
 obtain ⟨places,hx⟩:=reads os enc
 refine returnsInHanded_of_row (C:=Tryd.checked) (s:=Rows.OpenSpec.upto Rows.specQuotesSpec) own started (by kernel_rfl) Tryd.func8
  (witness_row_atRef (enc:=enc) (C:=Tryd.checked) false (laidWorld os) #[.string ⟨#[]⟩] rfl (by kernel_rfl) (by kernel_rfl) (by kernel_rfl)
   (OpenSpec.preRow_of_cond 8 hx (by kernel_rfl) (fun k hk=>by cases hk;kernel_rfl) (by kernel_rfl) (laid_met os _))) ?_
 intro W base args ds gs before hval hW _ hcond hwt hL _ _
 exact contract H enc W base args ds gs before hval hW (hcond _ rfl) hwt hL

theorem said:Rows.SpecQuotesUptoSaid :=
 OpenClaim.holds_of_cond 8 Tryd.f8 rfl rfl rfl rfl rfl rfl rfl ⟨rfl,rfl,rfl,rfl,rfl⟩ rfl rfl rfl rfl rfl (by kernel_rfl) Tryd.func8 (by kernel_rfl)
  (of_decide_eq_true (by kernel_rfl)) (by unfold Func.isWrapper;first | (rw [if_pos (by decide +kernel)];kernel_rfl) | (rw [if_neg (by decide +kernel)];exact ⟨rfl,rfl⟩))
  (fun os started H enc _ F=>by rw [OpenClaim.pre_eq_preRow];exact lifted os started H enc F)

theorem plain (f:FuncId) (fn:Func) (hf:Tryd.pinned.checked.prog.funcNamed "presage/presagelaw04.SpecQuotes" = some f) (hfn:Tryd.pinned.checked.prog.funcs[f]?=some fn) :
  true=Tryd.pinned.checked.prog.looks []∧∀(j:Nat) t,fn.params[j]?=some t→Tryd.pinned.checked.prog.wantsStandIn t=false:=by
 obtain rfl:f=8:=Option.some.inj ((show Tryd.prog.funcNamed "presage/presagelaw04.SpecQuotes" = some 8 by kernel_rfl).symm.trans hf) |>.symm
 obtain rfl:fn=Tryd.f8:=(Option.some.inj (Tryd.func8.symm.trans hfn)).symm
 refine ⟨by kernel_rfl,fun j t ht=>?_⟩
 rw [Tryd.params8] at ht
 have hm:=Array.mem_of_getElem? ht
 simp only [List.mem_toArray,List.mem_cons,List.not_mem_nil,or_false] at hm
 rcases hm with rfl
 ·exact (show Tryd.prog.wantsStandIn 9=false by kernel_rfl)

theorem card:Rows.SpecQuotesUptoCardSaid :=
 Claim7.holds_tied_plain_at .later [] _ _ _ _ said (fun _ h=>by cases h) (by kernel_rfl) (fun _ h=>by cases h) specQuotesUpto_row_tie rfl ⟨rfl,rfl⟩ (by kernel_rfl) rfl plain (by kernel_rfl)

end Go.Proofs.YtckbgeedlobfaaaDoor.specQuotes

namespace Go.Proofs.YtckbgeedlobfaaaDoor
theorem SpecQuotes_holds:Rows.SpecQuotesUptoCardSaid:=specQuotes.card
end Go.Proofs.YtckbgeedlobfaaaDoor
#print axioms Go.Proofs.YtckbgeedlobfaaaDoor.SpecQuotes_holds
