/-
  Texts of this claim: ScSpec, SpP, ScSpec2, ScSpec3, Sc1, Sc2, Sc3, Sc4, Sc5, Sc6, Sc7, Sc8, Sc9, T02Ty.
-/
import Derived.Test.YtckbgeedlobfaaaGreatDoorY02
import Derived.Lib.IndexLaws
import Derived.Test.YtckbgeedlobfaaaGreatDoorY05
import Derived.Lib.Bytealg
import Derived.Laws.StandIn
import Derived.Test.YtckbgeedlobfaaaGreatDoorY04
set_option maxHeartbeats 1000000
set_option linter.unusedSimpArgs false
set_option linter.unusedVariables false
namespace Go.Px.Scan
open Go.Px
def Zcd (c:Nat):Bool:=decide (65≤c∧c≤90∨97≤c∧c≤122)
def Zbq (c:Nat):Bool:=Zcd c || decide (c=95∨48≤c∧c≤57)
def Zb3 (c:Nat):Bool:=decide (32≤c∧c≤126∧c≠39)
def Zrf (c:Nat):Bool:=decide (c=39)
def Zfr (c:Nat):Bool:=decide (c=32∨c=9∨c=10∨c=13)
def Zot (c:Nat):Bool:=decide (c=58∨c=124∨c=59)
def Zb7 (s:ByteArray)(cm:Bool)(i:Nat):Nat :=
 if i<s.size then
  if cm then Zb7 s (decide (bt s i≠10)) (i+1)
  else if bt s i=35 then Zb7 s true (i+1)
  else if Zfr (bt s i) then Zb7 s false (i+1)
  else i
 else i
 termination_by s.size-i
def runS (p:Nat→Bool)(s:ByteArray)(i:Nat):Nat→Nat
 | 0=>i
 | n+1=>if i<s.size && p (bt s i) then runS p s (i+1) n else i
def Zd9:List ByteArray:=[⟨#[37,108,101,102,116]⟩,⟨#[37,110,111,110,97,115,115,111,99]⟩,⟨#[37,110,111,110,101]⟩,⟨#[37,112,114,101,99]⟩,
 ⟨#[37,114,105,103,104,116]⟩,⟨#[37,115,116,97,114,116]⟩,⟨#[37,116,111,107,101,110]⟩]
def Zr4 (o p:ByteArray):Bool:=decide (p.size≤o.size) && ((o.extract 0 p.size).toList == p.toList)
def begun (p:ByteArray):Bool:=Zd9.any fun o=>Zr4 o p
def whole (p:ByteArray):Bool:=Zd9.any fun o=>p.toList == o.toList
def ordS (s:ByteArray)(a k:Nat):Nat×Bool :=
 if k<s.size∧Zcd (bt s k)=true then
  if begun (s.extract a (k+1)) then ordS s a (k+1) else (k,false)
 else (k,true)
 termination_by s.size-k
inductive One where
 | word (kind:Nat) (a b next:Nat)
 | bad (k:Nat)
def oneS (s:ByteArray)(i:Nat):One :=
 if Zot (bt s i) then .word 4 i (i+1) (i+1)
 else if bt s i=37 then
  if (ordS s i (i+1)).2 && whole (s.extract i (ordS s i (i+1)).1) then .word 3 i (ordS s i (i+1)).1 (ordS s i (i+1)).1 else .bad (ordS s i (i+1)).1
 else if bt s i=39 then
  if i+1<runS Zb3 s (i+1) 16∧runS Zb3 s (i+1) 16<s.size∧bt s (runS Zb3 s (i+1) 16)=39 then .word 2 (i+1) (runS Zb3 s (i+1) 16) (runS Zb3 s (i+1) 16+1) else .bad (runS Zb3 s (i+1) 16)
 else if Zcd (bt s i) || decide (bt s i=95) then
  if runS Zbq s i 16<s.size∧Zbq (bt s (runS Zbq s i 16))=true then .bad (runS Zbq s i 16) else .word 1 i (runS Zbq s i 16) (runS Zbq s i 16)
 else .bad i
abbrev Wd:=Int×ByteArray×Int
theorem Zqd (s:ByteArray)(cm:Bool)(i:Nat):i≤Zb7 s cm i:=by
 induction cm,i using Zb7.induct s with
 | case1 i h ih=>unfold Zb7;rw[if_pos h,if_pos rfl];omega
 | case2 cm i h hc h1 ih=>unfold Zb7;rw[if_pos h,if_neg hc,if_pos h1];omega
 | case3 cm i h hc h1 h2 ih=>unfold Zb7;rw[if_pos h,if_neg hc,if_neg h1,if_pos h2];omega
 | case4 cm i h hc h1 h2=>unfold Zb7;rw[if_pos h,if_neg hc,if_neg h1,if_neg h2];omega
 | case5 cm i h=>unfold Zb7;rw[if_neg h];omega
theorem Zr5 (p:Nat→Bool)(s:ByteArray):∀(n i:Nat),i≤runS p s i n
 | 0,i=>Nat.le_refl _
 | n+1,i=>by
  unfold runS
  split
  ·have:=Zr5 p s n (i+1);omega
  ·omega
theorem Zzx (p:Nat→Bool)(s:ByteArray):∀(n i:Nat),i≤s.size→runS p s i n≤s.size
 | 0,i,h=>h
 | n+1,i,h=>by
  unfold runS
  split
  ·rename_i h1
   simp at h1
   exact Zzx p s n (i+1) (by omega)
  ·omega
theorem Zqo (p:Nat→Bool)(s:ByteArray):∀(n i:Nat),runS p s i n≤i+n
 | 0,i=>Nat.le_refl _
 | n+1,i=>by
  unfold runS
  split
  ·have:=Zqo p s n (i+1);omega
  ·omega
theorem ZZ174 (s:ByteArray)(a k:Nat):k≤(ordS s a k).1:=by
 induction k using ordS.induct s a with
 | case1 k h h1 ih=>unfold ordS;rw[if_pos h,if_pos h1];omega
 | case2 k h h1=>unfold ordS;rw[if_pos h,if_neg h1];simp
 | case3 k h=>unfold ordS;rw[if_neg h];simp
theorem ZZ284 (s:ByteArray)(a k:Nat)(hk:k≤s.size):(ordS s a k).1≤s.size:=by
 induction k using ordS.induct s a with
 | case1 k h h1 ih=>unfold ordS;rw[if_pos h,if_pos h1];exact ih (by omega)
 | case2 k h h1=>unfold ordS;rw[if_pos h,if_neg h1];exact hk
 | case3 k h=>unfold ordS;rw[if_neg h];exact hk
theorem Zmr {c:Nat}(h:(Zcd c || decide (c=95))=true):Zbq c=true:=by
 unfold Zbq
 simp at h ⊢
 rcases h with h|h
 ·exact Or.inl h
 ·exact Or.inr (Or.inl h)
theorem Zht {s:ByteArray}{i kd a b n:Nat}(hi:i<s.size)(h:oneS s i = .word kd a b n):i<n∧n≤s.size∧i≤a∧a<b∧b≤n:=by
 unfold oneS at h
 have r1:=Zr5 Zb3 s 16 (i+1)
 have r2:=Zzx Zb3 s 16 (i+1) (by omega)
 have r3:=ZZ174 s i (i+1)
 have r4:=ZZ284 s i (i+1) (by omega)
 have r6:=Zzx Zbq s 16 i (by omega)
 split at h
 ·cases h;omega
 split at h
 ·split at h
  ·cases h;omega
  ·cases h
 split at h
 ·split at h
  ·cases h;omega
  ·cases h
 split at h
 ·rename_i hl
  have hin:=Zmr hl
  have r7:i+1≤runS Zbq s i 16:=by
   have e:runS Zbq s i 16=if i<s.size && Zbq (bt s i) then runS Zbq s (i+1) 15 else i:=rfl
   have:=Zr5 Zbq s 15 (i+1)
   rw[e,hin]
   simp[hi];omega
  split at h
  ·cases h
  ·cases h;omega
 ·cases h
def allS (s:ByteArray)(i:Nat):List Wd×Option Nat :=
 if h:Zb7 s false i<s.size then
  match h1:oneS s (Zb7 s false i) with
  | .bad k=>([],some k)
  | .word kd a b n=>(((kd:Int),s.extract a b,(Zb7 s false i:Int))::(allS s n).1,(allS s n).2)
 else ([],none)
 termination_by s.size-i
 decreasing_by
 all_goals
  have:=Zht h h1
  have:=Zqd s false i
  omega
theorem Zjo {s:ByteArray}{i:Nat}(h:¬Zb7 s false i<s.size):allS s i=([],none):=by unfold allS;rw[dif_neg h]
theorem Zlj {s:ByteArray}{i k:Nat}(h:Zb7 s false i<s.size)(h1:oneS s (Zb7 s false i) = .bad k):allS s i=([],some k):=by
 unfold allS;rw[dif_pos h];split<;>rename_i h2<;>rw[h1]at h2<;>cases h2;rfl
theorem Zhn {s:ByteArray}{i kd a b n:Nat}(h:Zb7 s false i<s.size)(h1:oneS s (Zb7 s false i) = .word kd a b n) :
  allS s i=(((kd:Int),s.extract a b,(Zb7 s false i:Int))::(allS s n).1,(allS s n).2):=by
 conv=>lhs;unfold allS
 rw[dif_pos h];split<;>rename_i h2<;>rw[h1]at h2<;>cases h2;rfl
theorem Zym (s:ByteArray)(i:Nat):i≤s.size→(allS s i).1.length+i≤s.size:=by
 induction i using allS.induct s with
 | case1 i h k h1=>intro hi;rw[Zlj h h1];simpa using hi
 | case2 i h kd a b n h1 ih=>
  intro hi
  have:=Zht h h1
  have:=ih (by omega)
  have:=Zqd s false i
  rw[Zhn h h1]
  simp only[List.length_cons]
  omega
 | case3 i h=>intro hi;rw[Zjo h];simpa using hi
def Zah (s:ByteArray):List Wd×Option Nat:=if 8192<s.size then ([],some 8192) else allS s 0
end Go.Px.Scan
namespace Go.Px.Spec
open Go.Px.Scan
structure RowS where
 left:ByteArray
 words:List Wd
 said:Nat
 by_:ByteArray
structure Mc where
 ph:Nat
 heads:List (Nat×List ByteArray)
 start:ByteArray
 rule:ByteArray
 lefts:List ByteArray
 rows:List RowS
def noT:ByteArray:=⟨#[]⟩
def Zg6:ByteArray:=⟨#[37,116,111,107,101,110]⟩
def Zs8:ByteArray:=⟨#[37,108,101,102,116]⟩
def Zn3:ByteArray:=⟨#[37,114,105,103,104,116]⟩
def kNon:ByteArray:=⟨#[37,110,111,110,97,115,115,111,99]⟩
def Zh2:ByteArray:=⟨#[37,115,116,97,114,116]⟩
def Zk4:ByteArray:=⟨#[37,112,114,101,99]⟩
def Zns:ByteArray:=⟨#[37,110,111,110,101]⟩
def Zge:ByteArray:=⟨#[59]⟩
def Zpk:ByteArray:=⟨#[58]⟩
def sBar:ByteArray:=⟨#[124]⟩
def Zfs (t:ByteArray):Option Nat:=if t=Zg6 then some 0 else if t=Zs8 then some 1 else if t=Zn3 then some 2 else if t=kNon then some 3 else none
def hasB (l:List ByteArray)(s:ByteArray):Bool:=l.any fun x=>decide (x=s)
theorem Zae {l:List ByteArray}{s:ByteArray}:hasB l s=true↔s∈l:=by simp[hasB]
def kn (hs:List (Nat×List ByteArray))(s:ByteArray):Nat:=hs.foldl (fun a h=>if hasB h.2 s then min h.1 1+1 else a) 0
def isTB (w:Wd):Bool:=decide (w.1=1∨w.1=2)
def isSg (w:Wd)(t:ByteArray):Bool:=decide (w.1=4∧w.2.1=t)
def isOr (w:Wd)(t:ByteArray):Bool:=decide (w.1=3∧w.2.1=t)
def Zx {α:Type}(l:List α)(f:α→α):List α:=l.dropLast++(l.getLast?.map f).toList
theorem Zb8 {α:Type}(l:List α)(x:α)(f:α→α):Zx (l++[x]) f=l++[f x]:=by simp[Zx]
def Zg5 (m:Mc)(w:Wd):Option Mc:=if w.1=1 then some {m with ph:=5,rule:=w.2.1,lefts:=m.lefts++[w.2.1] } else none
def Zl4 (m:Mc)(w:Wd):Option Mc :=
 match Zfs w.2.1 with
 | some d=>some {m with ph:=1,heads:=m.heads++[(d,[])] }
 | none=>if w.2.1=Zh2∧m.start=noT then some {m with ph:=3 } else none
def Zob (m:Mc)(s:ByteArray):Option Mc :=
 if kn m.heads s=2∨((m.heads.getLast?.map (·.1)).getD 0=0∧0<kn m.heads s) then none
 else some {m with ph:=2,heads:=Zx m.heads fun h=>(h.1,h.2++[s]) }
def Zcj (m:Mc):Mc:={m with ph:=6,rows:=m.rows++[⟨m.rule,[],0,noT⟩] }
def Ze6 (m:Mc)(w:Wd):Option Mc :=
 if isSg w sBar then some (Zcj m)
 else if isSg w Zge then some {m with ph:=9 }
 else if m.ph=6∧isTB w then some {m with rows:=Zx m.rows fun r=>{r with words:=r.words++[w] } }
 else if m.ph=6∧isOr w Zk4 then some {m with ph:=7,rows:=Zx m.rows fun r=>{r with said:=1 } }
 else if m.ph=6∧isOr w Zns then some {m with ph:=8,rows:=Zx m.rows fun r=>{r with said:=2 } }
 else none
def Zbv (m:Mc)(w:Wd):Option Mc :=
 match m.ph with
 | 0=>if w.1=3 then Zl4 m w else Zg5 m w
 | 1=>if isTB w then Zob m w.2.1 else none
 | 2=>if isTB w then Zob m w.2.1 else if isSg w Zge then some {m with ph:=0 } else none
 | 3=>if w.1=1 then some {m with ph:=4,start:=w.2.1 } else none
 | 4=>if isSg w Zge then some {m with ph:=0 } else none
 | 5=>if isSg w Zpk then some (Zcj m) else none
 | 7=>if isTB w then some {m with ph:=8,rows:=Zx m.rows fun r=>{r with by_:=w.2.1 } } else none
 | 9=>Zg5 m w
 | _=>Ze6 m w
def goM:Mc→List Wd→Mc×List Wd
 | m,[]=>(m,[])
 | m,w::ws=>
  match Zbv m w with
  | some m'=>goM m' ws
  | none=>(m,w::ws)
def Zet (m:Mc):Bool:=decide (m.ph=9∧(m.start=noT∨hasB m.lefts m.start=true))
def posM (e:Int)(m:Mc)(ws:List Wd):Int :=
 match goM m ws with
 | (_,w::_)=>w.2.2
 | (m',[])=>if Zet m' then -1 else e
def m0:Mc:=⟨0,[],noT,noT,[],[]⟩
theorem Zcc {m m':Mc}{w:Wd}{ws:List Wd}(h:Zbv m w=some m'):goM m (w::ws)=goM m' ws:=by rw[goM,h]
theorem Zgw {m:Mc}{w:Wd}{ws:List Wd}(h:Zbv m w=none):goM m (w::ws)=(m,w::ws):=by rw[goM,h]
theorem Zxn {e:Int}{m:Mc}{w:Wd}{ws:List Wd}(h:Zbv m w=none):posM e m (w::ws)=w.2.2:=by unfold posM;rw[Zgw h]
theorem Zv0 {e:Int}{m:Mc}(h:Zet m=false):posM e m []=e:=by unfold posM;simp[goM,h]
def nowW (ws:List Wd)(e:Int)(i:Nat):Wd:=(ws[i]?).getD (0,noT,e)
theorem Zrq {ws:List Wd}{e:Int}{i:Nat}(h:i<ws.length):nowW ws e i=ws[i]:=by simp[nowW,h]
theorem Zmo {ws:List Wd}{e:Int}{i:Nat}(h:¬i<ws.length):nowW ws e i=(0,noT,e):=by
 unfold nowW;rw[List.getElem?_eq_none (by omega)];rfl
theorem Zyq {ws:List Wd}{e:Int}{i:Nat}{m:Mc}(h:Zbv m (nowW ws e i)=none)(hp:m.ph≠9∨i<ws.length):posM e m (ws.drop i)=(nowW ws e i).2.2:=by
 by_cases hi:i<ws.length
 ·rw[Zrq hi]at h ⊢
  rw[List.drop_eq_getElem_cons hi,Zxn h]
 ·rw[Zmo hi,List.drop_eq_nil_of_le (by omega),Zv0]
  simp[Zet]
  intro h9
  omega
theorem Zd4 {ws:List Wd}{e:Int}{i:Nat}{m m':Mc}(h:Zbv m (nowW ws e i)=some m')(hi:i<ws.length):goM m (ws.drop i)=goM m' (ws.drop (i+1)):=by
 rw[Zrq hi]at h
 rw[List.drop_eq_getElem_cons hi,Zcc h]
theorem Zhp {ws:List Wd}{e:Int}{i:Nat}(h:(nowW ws e i).1≠0):i<ws.length:=by
 by_cases hi:i<ws.length
 ·exact hi
 ·rw[Zmo hi]at h;exact absurd rfl h
section
variable {hs:List (Nat×List ByteArray)} {st rl:ByteArray} {ls:List ByteArray} {done:List RowS} {r:RowS} {x:Wd}
theorem sg_T {t:ByteArray}(h:isTB x=true):isSg x t=false:=by
 simp[isTB]at h
 simp[isSg]
 omega
theorem sg_or {t u:ByteArray}(h:isOr x t=true):isSg x u=false:=by
 simp[isOr]at h
 simp[isSg,h.1]
theorem T_or {t:ByteArray}(h:isOr x t=true):isTB x=false:=by
 simp[isOr]at h
 simp[isTB,h.1]
theorem Zy8 (h:isOr x Zns=true):isOr x Zk4=false:=by
 simp only[isOr,decide_eq_true_eq]at h
 simp only[isOr,decide_eq_false_iff_not,h.2]
 intro h2
 exact absurd h2.2 (by decide)
theorem Zyy (h:isTB x=true):Zbv ⟨6,hs,st,rl,ls,done++[r]⟩ x=some ⟨6,hs,st,rl,ls,done++[{r with words:=r.words++[x] }]⟩:=by
 simp[Zbv,Ze6,sg_T h,h,Zb8]
theorem Zx4 (h:isOr x Zk4=true):Zbv ⟨6,hs,st,rl,ls,done++[r]⟩ x=some ⟨7,hs,st,rl,ls,done++[{r with said:=1 }]⟩:=by
 simp[Zbv,Ze6,sg_or h,T_or h,h,Zb8]
theorem ZZ5 (h:isOr x Zns=true):Zbv ⟨6,hs,st,rl,ls,done++[r]⟩ x=some ⟨8,hs,st,rl,ls,done++[{r with said:=2 }]⟩:=by
 simp[Zbv,Ze6,sg_or h,T_or h,Zy8 h,h,Zb8]
theorem Zy1:Zbv ⟨7,hs,st,rl,ls,done++[r]⟩ x=if isTB x then some ⟨8,hs,st,rl,ls,done++[{r with by_:=x.2.1 }]⟩ else none:=by
 simp[Zbv,Zb8]
def closing (m:Mc)(x:Wd):Option Mc:=if isSg x sBar then some (Zcj m) else if isSg x Zge then some {m with ph:=9 } else none
theorem ZZ81 (h:isTB x=false)(h1:isOr x Zk4=false)(h2:isOr x Zns=false):Zbv ⟨6,hs,st,rl,ls,done++[r]⟩ x=closing ⟨6,hs,st,rl,ls,done++[r]⟩ x:=by
 simp[Zbv,Ze6,closing,h,h1,h2]
theorem Znd:Zbv ⟨8,hs,st,rl,ls,done++[r]⟩ x=closing ⟨8,hs,st,rl,ls,done++[r]⟩ x:=by
 simp[Zbv,Ze6,closing]
end
theorem Zwc {e:Int}{m m':Mc}{l l':List Wd}(h:goM m l=goM m' l'):posM e m l=posM e m' l':=by unfold posM;rw[h]
def accM (m:Mc)(l:List Wd):Prop:=∃m',goM m l=(m',[])∧Zet m'=true
def Zew (e:Int)(m:Mc)(l:List Wd)(a:Int):Prop:=a=posM e m l∧¬accM m l
theorem Zew.congr {e a:Int}{m m':Mc}{l l':List Wd}(h:goM m l=goM m' l')(hs:Zew e m' l' a):Zew e m l a :=
 ⟨hs.1.trans (Zwc h).symm,fun ⟨m2,h1,h2⟩=>hs.2 ⟨m2,h ▸ h1,h2⟩⟩
theorem Zfc {ws:List Wd}{e:Int}{i:Nat}{m:Mc}(h:Zbv m (nowW ws e i)=none)(hp:m.ph≠9∨i<ws.length):Zew e m (ws.drop i) (nowW ws e i).2.2:=by
 refine ⟨(Zyq h hp).symm,?_⟩
 by_cases hi:i<ws.length
 ·rw[Zrq hi]at h
  rw[List.drop_eq_getElem_cons hi]
  rintro ⟨m',h1,_⟩
  rw[Zgw h]at h1
  cases h1
 ·rw[List.drop_eq_nil_of_le (by omega)]
  rintro ⟨m',h1,h2⟩
  cases h1
  simp[Zet]at h2
  omega
theorem ZZ63 {e:Int}{m:Mc}(h:Zet m=false):Zew e m [] e :=
 ⟨(Zv0 h).symm,fun ⟨m',h1,h2⟩=>by cases h1;rw[h]at h2;cases h2⟩
end Go.Px.Spec
namespace Go.Px
theorem Zfa (s:ByteArray)(i:Nat):bt s i=(s.data.toList.getD i 0).toNat:=by
 unfold bt
 split
 ·rename_i h
  have h':i<s.data.toList.length:=by simpa using h
  simp only[List.getD,List.getElem?_eq_getElem h',Option.getD_some]
  rfl
 ·rename_i h
  have h':¬i<s.data.toList.length:=by simpa using h
  simp[List.getD,List.getElem?_eq_none (Nat.le_of_not_lt h')]
theorem Ztr {s:ByteArray}{i:Nat}(h:i<s.size):∃c,s.data.toList[i]?=some c∧bt s i=c.toNat:=by
 have h':i<s.data.toList.length:=by simpa using h
 refine ⟨s.data.toList[i],List.getElem?_eq_getElem h',?_⟩
 rw[Zfa];simp[List.getD,List.getElem?_eq_getElem h']
theorem Zuc {s:ByteArray}{k i:Nat}(hi:k+i<s.size):∃c,(s.extract k s.size).data.toList[i]?=some c∧bt s (k+i)=c.toNat:=by
 obtain ⟨c,h1,h2⟩:=Ztr hi
 refine ⟨c,?_,h2⟩
 rw[Lib.extract_data,List.getElem?_take,if_pos (by omega),List.getElem?_drop]
 exact h1
theorem ZZ156 {s:ByteArray}{k:Nat}{c:UInt8}(_hk:k≤s.size) :
  (Lib.indexByte (s.extract k s.size).data.toList c = -1∧∀i,k≤i→i<s.size→bt s i≠c.toNat) ∨
  ∃o:Nat,Lib.indexByte (s.extract k s.size).data.toList c=o∧k+o<s.size∧bt s (k+o)=c.toNat∧∀i,k≤i→i<k+o→bt s i≠c.toNat:=by
 have hg:=Lib.indexByte_ge (s.extract k s.size).data.toList c
 rcases Int.lt_or_le (Lib.indexByte (s.extract k s.size).data.toList c) 0 with h|h
 ·have he:Lib.indexByte (s.extract k s.size).data.toList c = -1:=by omega
  refine Or.inl ⟨he,fun i hi hs e=>?_⟩
  obtain ⟨d,h1,h2⟩:=Zuc (s:=s) (k:=k) (i:=i-k) (by omega)
  rw[show k+(i-k)=i by omega,e]at h2
  exact Lib.indexByte_none he (i-k) (by rw[h1,UInt8.toNat.inj h2])
 ·obtain ⟨o,ho⟩:∃o:Nat,Lib.indexByte (s.extract k s.size).data.toList c=o:=⟨_,(Int.toNat_of_nonneg h).symm⟩
  obtain ⟨h1,h2⟩:=Lib.indexByte_some ho
  have hlt:k+o<s.size:=by
   have:=(List.getElem?_eq_some_iff.1 h1).1
   rw[Lib.extract_data]at this
   simp at this
   omega
  refine Or.inr ⟨o,ho,hlt,?_,fun i hi hio e=>?_⟩
  ·obtain ⟨d,h3,h4⟩:=Zuc hlt
   rw[h1]at h3;cases h3;exact h4
  ·obtain ⟨d,h3,h4⟩:=Zuc (s:=s) (k:=k) (i:=i-k) (by omega)
   rw[show k+(i-k)=i by omega,e]at h4
   exact h2 (i-k) (by omega) (by rw[h3,UInt8.toNat.inj h4])
end Go.Px
namespace Go.Px.Scan
open Go.Px
theorem ZZ66 {s:ByteArray}:∀(n i:Nat),i+n≤s.size→(∀j,i≤j→j<i+n→bt s j≠10)→Zb7 s true i=Zb7 s true (i+n)
 | 0,i,_,_=>rfl
 | n+1,i,h,hb=>by
  conv=>lhs;unfold Zb7
  rw[if_pos (by omega),if_pos rfl,decide_eq_true (hb i (by omega) (by omega)),ZZ66 n (i+1) (by omega) (fun j h1 h2=>hb j (by omega) (by omega))]
  congr 1;omega
theorem Zi7 {s:ByteArray}{cm:Bool}{i:Nat}(h:s.size≤i):Zb7 s cm i=i:=by unfold Zb7;rw[if_neg (by omega)]
theorem Zpy {s:ByteArray}{i:Nat}(h:i<s.size)(hb:Zfr (bt s i)=true):Zb7 s false i=Zb7 s false (i+1):=by
 conv=>lhs;unfold Zb7
 rw[if_pos h]
 simp only[Bool.false_eq_true,if_false]
 rw[if_neg (by intro e;rw[e]at hb;simp[Zfr]at hb),if_pos hb]
theorem Zm2 {s:ByteArray}{i:Nat}(h:i<s.size)(hb:Zfr (bt s i)=false)(h35:bt s i≠35):Zb7 s false i=i:=by
 conv=>lhs;unfold Zb7
 rw[if_pos h]
 simp only[Bool.false_eq_true,if_false]
 rw[if_neg h35,if_neg (by simp[hb])]
theorem Zzm {s:ByteArray}{k j:Nat}(hk:k<s.size)(h35:bt s k=35)(hj:j≤s.size)(hkj:k≤j)(hn:∀i,k≤i→i<j→bt s i≠10)(he:j=s.size∨bt s j=10):Zb7 s false k=Zb7 s false j:=by
 have hkj':k+1≤j:=by
  rcases Nat.lt_or_ge k j with h|h
  ·exact h
  ·have:k=j:=by omega
   subst this
   rcases he with h1|h1<;>omega
 have e1:Zb7 s false k=Zb7 s true (k+1):=by
  conv=>lhs;unfold Zb7
  rw[if_pos hk]
  simp only[Bool.false_eq_true,if_false]
  rw[if_pos h35]
 rw[e1,ZZ66 (j-(k+1)) (k+1) (by omega) (fun i h1 h2=>hn i (by omega) (by omega)),show k+1+(j-(k+1))=j by omega]
 rcases he with h|h
 ·rw[Zi7 (by omega),Zi7 (by omega)]
 ·rcases Nat.lt_or_ge j s.size with h2|h2
  ·rw[Zpy h2 (by rw[h];rfl)]
   conv=>lhs;unfold Zb7
   rw[if_pos h2,if_pos rfl,h]
   rfl
  ·rw[Zi7 h2,Zi7 h2]
theorem Zt8 (c:Nat)(hc:c<256):decide (0≤Lib.indexByte [32,9,10,13] ((c:Int).toNat.toUInt8))=Zfr c :=
 (show ∀c:Fin 256,decide (0≤Lib.indexByte [32,9,10,13] (((c.val:Nat):Int).toNat.toUInt8))=Zfr c.val by decide +kernel) ⟨c,hc⟩
theorem Zw4 (c:Nat)(hc:c<256):decide (0≤Lib.indexByte [58,124,59] ((c:Int).toNat.toUInt8))=Zot c :=
 (show ∀c:Fin 256,decide (0≤Lib.indexByte [58,124,59] (((c.val:Nat):Int).toNat.toUInt8))=Zot c.val by decide +kernel) ⟨c,hc⟩
end Go.Px.Scan
namespace Go.Px.Scan
open Go.Px
theorem Zqn (p:Nat→Bool)(s:ByteArray):∀(n i j:Nat),i≤j→j<runS p s i n→p (bt s j)=true∧j<s.size
 | 0,i,j,h1,h2=>by unfold runS at h2;omega
 | n+1,i,j,h1,h2=>by
  unfold runS at h2
  split at h2
  ·rename_i h
   simp at h
   by_cases hj:j=i
   ·subst hj;exact ⟨h.2,h.1⟩
   ·exact Zqn p s n (i+1) j (by omega) h2
  ·omega
theorem Zqk (p:Nat→Bool)(s:ByteArray):∀(n i:Nat),(∀j,i≤j→j<s.size→p (bt s j)=true)→s.size≤i+n→i≤s.size→runS p s i n=s.size
 | 0,i,_,h2,h3=>by unfold runS;omega
 | n+1,i,h1,h2,h3=>by
  unfold runS
  by_cases hi:i<s.size
  ·rw[if_pos (by simp[hi,h1 i (Nat.le_refl _) hi])]
   exact Zqk p s n (i+1) (fun j hj=>h1 j (by omega)) (by omega) hi
  ·rw[if_neg (by simp[hi])];omega
def Zfi (s:ByteArray):Prop:=0<s.size∧s.size≤16∧(Zcd (bt s 0) || decide (bt s 0=95))=true∧∀i,i<s.size→Zbq (bt s i)=true
def Zec (s:ByteArray):Prop:=0<s.size∧s.size≤16∧∀i,i<s.size→Zb3 (bt s i)=true
theorem Zt2 {c:Nat}(h:Zbq c=true):Zb3 c=true:=by
 simp[Zbq,Zcd,Zb3]at *;omega
theorem Zfi.term {s:ByteArray}(h:Zfi s):Zec s:=⟨h.1,h.2.1,fun i hi=>Zt2 (h.2.2.2 i hi)⟩
theorem ZZ115 {s:ByteArray}:Zec s↔(0<s.size∧s.size≤16∧runS Zb3 s 0 16=s.size):=by
 constructor
 ·rintro ⟨h1,h2,h3⟩
  exact ⟨h1,h2,Zqk _ _ _ _ (fun j _ hj=>h3 j hj) (by omega) (by omega)⟩
 ·rintro ⟨h1,h2,h3⟩
  exact ⟨h1,h2,fun i hi=>(Zqn Zb3 s 16 0 i (Nat.zero_le _) (by omega)).1⟩
theorem Zh6 {a b:ByteArray}(h:a.data.toList=b.data.toList):a=b:=by
 cases a;cases b;simp at h;cases h;rfl
theorem Zjl (s:ByteArray):s.extract 0 s.size=s:=by
 apply Zh6
 have:=Lib.extract_toList s 0 s.size
 rw[ByteArray.toList_eq]at this
 rw[this];simp;exact List.take_of_length_le (by simp)
theorem extract_size {s:ByteArray}{a e:Nat}(hae:a≤e)(he:e≤s.size):(s.extract a e).size=e-a:=by
 simp;omega
theorem ZZ99 {s:ByteArray}(h:Zfi s):Zb7 s false 0=0∧oneS s 0 = .word 1 0 s.size s.size:=by
 obtain ⟨h1,h2,h3,h4⟩:=h
 have hb:Zfr (bt s 0)=false∧bt s 0≠35∧Zot (bt s 0)=false∧bt s 0≠37∧bt s 0≠39:=by
  simp[Zcd,Zfr,Zot]at *;omega
 refine ⟨Zm2 h1 hb.1 hb.2.1,?_⟩
 have hr:runS Zbq s 0 16=s.size:=Zqk _ _ _ _ (fun j _ hj=>h4 j hj) (by omega) (by omega)
 unfold oneS
 rw[if_neg (by simp[hb.2.2.1]),if_neg hb.2.2.2.1,if_neg hb.2.2.2.2,if_pos h3,hr,if_neg (by omega)]
def quo (s:ByteArray):ByteArray:=(⟨#[39]⟩++s)++⟨#[39]⟩
theorem Zj9 (s:ByteArray):(quo s).data.toList=39::(s.data.toList++[39]):=by simp[quo]
theorem Zku (s:ByteArray):(quo s).size=s.size+2:=by
 have:(quo s).data.toList.length=s.size+2:=by rw[Zj9];simp
 simpa using this
theorem quo_0 (s:ByteArray):bt (quo s) 0=39:=by rw[Zfa,Zj9];rfl
theorem ZZ343 {s:ByteArray}{i:Nat}(h:i<s.size):bt (quo s) (i+1)=bt s i:=by
 rw[Zfa,Zfa,Zj9]
 simp only[List.getD_eq_getElem?_getD,List.getElem?_cons_succ]
 rw[List.getElem?_append_left (by simpa using h)]
theorem ZZ43 (s:ByteArray):bt (quo s) (s.size+1)=39:=by
 rw[Zfa,Zj9]
 simp only[List.getD_eq_getElem?_getD,List.getElem?_cons_succ]
 rw[List.getElem?_append_right (by simp)]
 simp
theorem ZZ7 (s:ByteArray):∀(n i:Nat),i≤s.size→runS Zb3 (quo s) (i+1) n=runS Zb3 s i n+1
 | 0,i,_=>rfl
 | n+1,i,h=>by
  unfold runS
  by_cases hi:i<s.size
  ·rw[ZZ343 hi]
   by_cases hp:Zb3 (bt s i)=true
   ·rw[if_pos (by simp[hp,Zku];omega),if_pos (by simp[hp,hi])]
    exact ZZ7 s n (i+1) hi
   ·rw[if_neg (by simp[hp]),if_neg (by simp[hp])]
  ·have:i=s.size:=by omega
   subst this
   rw[ZZ43,if_neg (by simp[Zb3]),if_neg (by simp)]
theorem Ztg (s:ByteArray):(quo s).extract 1 (s.size+1)=s:=by
 apply Zh6
 have:=Lib.extract_toList (quo s) 1 (s.size+1)
 rw[ByteArray.toList_eq,Zj9]at this
 rw[this];simp
theorem ZZ217 (s:ByteArray):oneS (quo s) 0=if 1<runS Zb3 s 0 16+1∧runS Zb3 s 0 16+1<s.size+2∧bt (quo s) (runS Zb3 s 0 16+1)=39 then .word 2 1 (runS Zb3 s 0 16+1) (runS Zb3 s 0 16+1+1) else .bad (runS Zb3 s 0 16+1):=by
 unfold oneS
 rw[quo_0,if_neg (by decide),if_neg (by decide),if_pos rfl,ZZ7 s 16 0 (Nat.zero_le _),Zku]
end Go.Px.Scan
namespace Go.Proofs.YtckbgeedlobfaaaGreatDoor
open Go.Px Go.Px.Scan Go.RowKit
theorem Zuz {p:Nat→Prop}(h:∀c:Fin 256,p c.val)(c:Nat)(hc:c<256):p c:=h ⟨c,hc⟩
theorem ZZ205 (c:Nat)(hc:c<256):(decide (97≤bits BinOp.or IntKind.u8 (c:Int) 32) && decide (bits BinOp.or IntKind.u8 (c:Int) 32≤122))=Zcd c :=
 Zuz (p:=fun c=>(decide (97≤bits BinOp.or IntKind.u8 (c:Int) 32) && decide (bits BinOp.or IntKind.u8 (c:Int) 32≤122))=Zcd c) (by decide +kernel) c hc
theorem Zjg {X:Pan}{K:Value→World→Prop}(s:ByteArray)(c:Int)(w:World)(h:K (.int .i64 (Lib.indexByte s.data.toList c.toNat.toUInt8)) w) :
  CALL Tryz.prog X Zdo.id #[.string s,.int .u8 c] w K:=by
 unfold CALL RUNN
 rw[run_callFunc_extern Tryz.func108 (by kernel_rfl) (by kernel_rfl) (by kernel_rfl) (e:=Extern.BytealgIndexByte.indexByte) (by kernel_rfl),Lib.run_indexByteString]
 exact h
theorem Znb (s:ByteArray)(c:Int)(w:World):Ct Tryz.prog Zap.id #[.string s,.int .u8 c] w fun v w'=>v = .int .i64 (Lib.indexByte s.data.toList c.toNat.toUInt8)∧w=w':=by
 refine Zap.ct fun R hR=>?_
 unfold Zap.run Zap.b1
 refine Zjg s c w ?_
 exact hR _ _ ⟨rfl,rfl⟩
theorem Zin (s:ByteArray)(c:Int)(w:World):Ct Tryz.prog Zbt.id #[.string s,.int .u8 c] w fun v w'=>v = .int .i64 (Lib.indexByte s.data.toList c.toNat.toUInt8)∧w=w':=by
 refine Zbt.ct fun R hR=>?_
 unfold Zbt.run Zbt.b1
 refine Zf (Znb s c w) ?_
 rintro _ _ ⟨rfl,rfl⟩
 exact hR _ _ ⟨rfl,rfl⟩
theorem Zn9 (c:Nat)(w:World)(hc:c<256): Ct Tryz.prog Zdv.id #[.int .u8 c] w fun v w'=>v = .bool (Zcd c)∧w=w':=by
 refine Zdv.ct fun R hR=>?_
 unfold Zdv.run Zdv.b1
 have h32:=ZZ205 c hc
 (repeat' (first | (refine Za (fun h=>?_) (fun h=>?_)<;>(try simp at h)) | simp[go_sem]))
 ·exact hR _ _ ⟨by rw[←h32];simp[h],rfl⟩
 ·exact hR _ _ ⟨by rw[←h32];simp;intro h2;omega,rfl⟩
theorem Zvd (c:Nat)(w:World)(hc:c<256):Ct Tryz.prog Zer.id #[.int .u8 c] w fun v w'=>v = .bool (Zbq c)∧w=w':=by
 refine Zer.ct fun R hR=>?_
 unfold Zer.run Zer.b1
 refine Zf (Zn9 c w hc) ?_
 rintro _ _ ⟨rfl,rfl⟩
 (refine Za (fun h=>?_) (fun h=>?_)<;>(try simp at h))
 ·exact hR _ _ ⟨by simp[Zbq,h],rfl⟩
 have hl:=h
 (repeat' (first | (refine Za (fun h=>?_) (fun h=>?_)<;>(try simp at h)) | simp[go_sem]))<;>exact hR _ _ ⟨congrArg Value.bool (by rw[Bool.eq_iff_iff];simp[Zbq,hl];try omega),rfl⟩
theorem ZZ139 (c:Nat)(w:World):Ct Tryz.prog Ze3.id #[.int .u8 c] w fun v w'=>v = .bool (Zb3 c)∧w=w':=by
 refine Ze3.ct fun R hR=>?_
 unfold Ze3.run Ze3.b1
 (repeat' (first | (refine Za (fun h=>?_) (fun h=>?_)<;>(try simp at h)) | simp[go_sem]))<;>exact hR _ _ ⟨congrArg Value.bool (by rw[Bool.eq_iff_iff];simp[Zb3];try omega),rfl⟩
theorem ZZ79 (c:Nat)(w:World):Ct Tryz.prog Zb5.id #[.int .u8 c] w fun v w'=>v = .bool (Zrf c)∧w=w':=by
 refine Zb5.ct fun R hR=>?_
 unfold Zb5.run Zb5.b1
 simp[go_sem]
 refine hR _ _ ⟨?_,rfl⟩
 simp[Zrf]
 rw[Bool.eq_iff_iff];simp;omega
end Go.Proofs.YtckbgeedlobfaaaGreatDoor
namespace Go.Proofs.YtckbgeedlobfaaaGreatDoor
open Go.Px Go.Px.Scan Go.RowKit
structure Sc (w:World)(b:Nat)(s:ByteArray)(k:Nat):Prop where
 c0:w.cell? ⟨b,0,none⟩=some (.string s)
 c1:w.cell? ⟨b,1,none⟩=some (.int .i64 k)
 fr:w.frozen? ⟨b,1,none⟩=false
 le:k≤s.size
 sz:s.size≤maxLen
theorem Sc.drew {w b s k}(h:Sc w b s k):Sc w.drew b s k:=⟨h.c0,h.c1,h.fr,h.le,h.sz⟩
theorem Sc.set {w b s k}(h:Sc w b s k)(j:Nat)(hj:j≤s.size):Sc (w.setCell ⟨b,1,none⟩ (.int .i64 j)) b s j :=
 ⟨by rw[World.cell?_setCell_other _ _ _ _ (by simp)];exact h.c0,World.cell?_setCell_same _ _ _ h.c1,by rw[World.frozen?_setCell];exact h.fr,hj,h.sz⟩
theorem Sc.inc {w b s k}(h:Sc w b s k)(hk:k<s.size):Sc (w.setCell ⟨b,1,none⟩ (.int .i64 ((k:Int)+1))) b s (k+1):=h.set (k+1) hk
theorem Sc.lt {w b s k}(h:Sc w b s k):b<w.heap.size:=World.block_lt_of_cell? w _ h.c0
theorem Sc.chg {F:Nat→Prop}{w w' b s k}(h:Sc w b s k)(hc:Chg F w w')(hF:¬F b):Sc w' b s k :=
 ⟨hc.at h.c0 hF,hc.at h.c1 hF,(hc.frozen (p:=⟨b,1,none⟩) h.lt hF).trans h.fr,h.le,h.sz⟩
def ZZ185 (g:FuncId)(p:Nat→Bool):Prop:=∀c:Nat,c<256→∀w,Ct Tryz.prog g #[.int .u8 c] w fun v w'=>v = .bool (p c)∧w=w'
theorem Zt7 {w:World}{b:Nat}{s:ByteArray}{k:Nat}{g:FuncId}{p:Nat→Bool}(h:Sc w b s k)(hg:ZZ185 g p) :
  Ct Tryz.prog Zbr.id #[.pointer (some ⟨b,0,none⟩),.func (.func g) #[] #[]] w fun v w'=>v = .bool (decide (k<s.size) && p (bt s k))∧w.drew=w':=by
 refine Zbr.ct fun R hR=>?_
 unfold Zbr.run Zbr.b1
 simp[go_sem,h.c0,h.c1]
 refine Za (fun h1=>?_) (fun h1=>?_)<;>simp at h1
 ·simp[go_sem,h.c0,h.c1,Zdc,h1]
  refine Zvr (hg _ (Zxp s k) _) ?_
  rintro _ _ ⟨rfl,rfl⟩
  exact hR _ _ ⟨by simp[h1],rfl⟩
 ·exact hR _ _ ⟨by simp[show ¬k<s.size by omega],rfl⟩
def left (s:ByteArray)(b:Nat)(w:World):Nat:=s.size-iv ((w.cell? ⟨b,1,none⟩).getD undef)
theorem Sc.left {w b s k}(h:Sc w b s k):left s b w=s.size-k:=by unfold Proofs.YtckbgeedlobfaaaGreatDoor.left;rw[h.c1];rfl
theorem ZZ168 {w:World}{b:Nat}{s:ByteArray}{k:Nat}{g:FuncId}{p:Nat→Bool}(n:Nat)(hn:n≤1000)(h:Sc w b s k)(hg:ZZ185 g p) :
  Ct Tryz.prog Zaj.id #[.pointer (some ⟨b,0,none⟩),.func (.func g) #[] #[],.int .i64 n] w fun v w'=>v = .string (s.extract k (runS p s k n))∧Sc w' b s (runS p s k n)∧Chg (·=b) w w':=by
 refine Zaj.ct fun R hR=>?_
 unfold Zaj.run Zaj.b1
 simp[go_sem,h.c0,h.c1]
 have hsz:=h.sz
 refine Zaj.l5_intro _ _ _ _ _ _ (fun w1=>∃j m,Sc w1 b s j∧Chg (·=b) w w1∧k≤j∧runS p s j m=runS p s k n∧j+m=k+n) (left s b) ⟨k,n,h,Chg.refl _ _,Nat.le_refl _,rfl,rfl⟩ ?_
 rintro w1 ⟨j,m,h1,hc,hj,hr,hm⟩ C hC
 have hjm:j≤maxLen:=Nat.le_trans h1.le hsz
 have hkm:k≤maxLen:=Nat.le_trans h.le hsz
 have done:∀w2,Sc w2 b s j→Chg (·=b) w w2→runS p s k n=j→Zaj.b3 R (.pointer (some ⟨b,0,none⟩)) (.int .i64 k) w2:=by
  intro w2 h2 hc2 he
  unfold Zaj.b3
  simp[go_sem,h2.c0,h2.c1,hj,h2.le]
  exact hR _ _ ⟨by rw[he],by rw[he];exact h2.drew,hc2.drew⟩
 unfold Zaj.b8
 simp[go_sem,h1.c0,h1.c1]
 refine Za (fun h2=>?_) (fun h2=>?_)<;>simp at h2
 ·have hsub:IntKind.i64.wrap ((j:Int)-k)=((j-k:Nat):Int):=by unfold maxLen at *;rw[IntWalk.i64_in _ (by omega)];omega
  simp[go_sem,h1.c0,h1.c1,hsub]
  refine Za (fun h3=>?_) (fun h3=>?_)<;>simp at h3
  ·obtain ⟨m,rfl⟩:∃m',m=m'+1:=⟨m-1,by omega⟩
   simp[go_sem,h1.c0,h1.c1,Zdc,h2]
   refine Zvr (hg _ (Zxp s j) _) ?_
   rintro _ _ ⟨rfl,rfl⟩
   unfold Zaj.b9
   refine Za (fun h4=>?_) (fun h4=>?_)
   ·unfold Zaj.b7
    simp[go_sem,h1.c0,h1.c1,h1.fr,Zau h2 hsz]
    have h5:=(h1.inc h2).drew
    refine hC _ ⟨j+1,m,h5,(hc.setCell (Or.inl rfl) _).drew,by omega,?_,by omega⟩ ?_
    ·rw[←hr];conv=>rhs;unfold runS
     rw[if_pos (by simp[h2,h4])]
    ·rw[h5.left,h1.left];omega
   ·refine done _ h1.drew hc.drew ?_
    rw[←hr];unfold runS;rw[if_neg (by simp[h4])]
  ·unfold Zaj.b9
   simp only[Zf8]
   refine done _ h1.drew hc.drew ?_
   rw[←hr]
   obtain rfl:m=0:=by omega
   rfl
 ·unfold Zaj.b9
  simp only[Zf8]
  refine done _ h1.drew hc.drew ?_
  rw[←hr]
  cases m with
  | zero=>rfl
  | succ m=>unfold runS;rw[if_neg (by simp;omega)]
end Go.Proofs.YtckbgeedlobfaaaGreatDoor
namespace Go.Proofs.YtckbgeedlobfaaaGreatDoor
open Go.Px Go.Px.Scan Go.RowKit
theorem Zx9 {w:World}{b:Nat}{s:ByteArray}{k:Nat}(h:Sc w b s k) :
  Ct Tryz.prog Zn.id #[.pointer (some ⟨b,0,none⟩)] w fun v w'=>v = .bool (decide (Zb7 s false k<s.size))∧Sc w' b s (Zb7 s false k)∧Chg (·=b) w w':=by
 refine Zn.ct fun R hR=>?_
 unfold Zn.run Zn.b1
 have hsz:=h.sz
 refine Zn.l2_intro _ _ _ (fun w1=>∃j,Sc w1 b s j∧Chg (·=b) w w1∧Zb7 s false j=Zb7 s false k) (left s b) ⟨k,h,Chg.refl _ _,rfl⟩ ?_
 rintro w1 ⟨j,h1,hc1,hs1⟩ C2 hC2
 refine Zn.l12_intro _ _ _ _ (fun w2=>∃i,Sc w2 b s i∧Chg (·=b) w w2∧Zb7 s false i=Zb7 s false k∧j≤i) (left s b) ⟨j,h1,hc1,hs1,Nat.le_refl _⟩ ?_
 rintro w2 ⟨i,h2,hc2,hs2,hji⟩ C12 hC12
 have fin:∀w3,Sc w3 b s i→Chg (·=b) w w3→Zb7 s false k=i→Zn.b5 R C2 (.pointer (some ⟨b,0,none⟩)) w3:=by
  intro w3 h3 hc3 he
  unfold Zn.b5
  simp[go_sem,h3.c0,h3.c1]
  exact hR _ _ ⟨by simp[he],by rw[he];exact h3.drew,hc3.drew⟩
 have next:∀w3,Sc w3 b s i→Chg (·=b) w w3→(i<s.size→Zfr (bt s i)=false)→Zn.b6 R C2 (.pointer (some ⟨b,0,none⟩)) w3:=by
  intro w3 h3 hc3 hb
  unfold Zn.b6
  simp[go_sem,h3.c0,h3.c1]
  refine Za (fun h4=>?_) (fun h4=>?_)<;>simp at h4
  ·simp[go_sem,h3.c0,h3.c1,Zdc,h4]
   unfold Zn.b7
   refine Za (fun h5=>?_) (fun h5=>?_)<;>simp at h5
   ·have h5:bt s i=35:=by omega
    unfold Zn.b8
    simp[go_sem,h3.c0,h3.c1,h3.le]
    refine Zf (Zin _ 10 _) ?_
    rintro _ w4 ⟨rfl,hw4⟩
    have h4':Sc w4 b s i:=by rw[←hw4];exact h3.drew.drew
    have hc4:Chg (·=b) w w4:=by rw[←hw4];exact hc3.drew.drew
    clear hw4
    have jump:∀w5 n,Sc w5 b s i→Chg (·=b) w w5→i+n≤s.size→(∀m,i≤m→m<i+n→bt s m≠10)→(i+n=s.size∨bt s (i+n)=10)→Zn.b9 R C2 (.pointer (some ⟨b,0,none⟩)) (.int .i64 (n:Nat)) w5:=by
     intro w5 n h5' hc5 hn hno hend
     have hadd:IntKind.i64.wrap ((i:Int)+n)=((i+n:Nat):Int):=by unfold maxLen at *;rw[IntWalk.i64_in _ (by omega)];omega
     have hn1:n≠0:=by
      rintro rfl
      rcases hend with h9|h9
      ·omega
      ·simp at h9;omega
     unfold Zn.b9
     simp[go_sem,h5'.c0,h5'.c1,h5'.fr,hadd]
     have h6:=h5'.set (i+n) hn
     have e:((i:Int)+n)=((i+n:Nat):Int):=by omega
     try rw[e]
     refine hC2 _ ⟨i+n,h6,hc5.setCell (Or.inl rfl) _,?_⟩ ?_
     ·rw[←hs2];exact (Zzm h4 h5 hn (by omega) hno hend).symm
     ·rw[h6.left,h1.left];omega
    generalize hq:Lib.indexByte (s.extract i s.size).data.toList ((10:Int).toNat.toUInt8)=q
    rcases ZZ156 (s:=s) (k:=i) (c:=10) h3.le with ⟨he,hno⟩|⟨o,he,ho,hb10,hno⟩
    ·obtain rfl : -1=q:=he.symm.trans hq
     have hsub:IntKind.i64.wrap ((s.size:Int)-i)=((s.size-i:Nat):Int):=by unfold maxLen at *;rw[IntWalk.i64_in _ (by omega)];omega
     simp[go_sem,h4'.c0,h4'.c1,hsub]
     refine jump _ _ h4'.drew hc4.drew (by omega) (fun m hm1 hm2=>hno m hm1 (by omega)) (Or.inl (by omega))
    ·obtain rfl:(o:Int)=q:=he.symm.trans hq
     simp[go_sem,show ¬((o:Int)<0) by omega]
     exact jump _ _ h4' hc4 (by omega) hno (Or.inr hb10)
   ·unfold Zn.b10
    refine fin _ h3.drew hc3.drew ?_
    rw[←hs2];exact Zm2 h4 (hb h4) (by omega)
  ·unfold Zn.b7
   simp only[Zf8]
   unfold Zn.b10
   refine fin _ h3.drew hc3.drew ?_
   rw[←hs2];exact Zi7 h4
 unfold Zn.b15
 simp[go_sem,h2.c0,h2.c1]
 refine Za (fun h4=>?_) (fun h4=>?_)<;>simp at h4
 ·simp[go_sem,h2.c0,h2.c1,Zdc,h4]
  refine Zf (Zin _ _ _) ?_
  rintro _ w4 ⟨rfl,hw4⟩
  have h4':Sc w4 b s i:=by rw[←hw4];exact h2.drew
  have hc4:Chg (·=b) w w4:=by rw[←hw4];exact hc2.drew
  clear hw4
  have hbl:=Zt8 (bt s i) (Zxp s i)
  simp[go_sem]
  simp at hbl
  rw[hbl]
  unfold Zn.b16
  refine Za (fun h5=>?_) (fun h5=>?_)
  ·unfold Zn.b14
   simp[go_sem,h4'.c0,h4'.c1,h4'.fr,Zau h4 hsz]
   refine hC12 _ ⟨i+1,h4'.inc h4,hc4.setCell (Or.inl rfl) _,?_,by omega⟩ ?_
   ·rw[←hs2];exact (Zpy h4 h5).symm
   ·rw[(h4'.inc h4).left,h2.left];omega
  ·exact next _ h4' hc4 (fun _=>h5)
 ·unfold Zn.b16
  simp only[Zf8]
  exact next _ h2.drew hc2.drew (fun h=>absurd h (by omega))
end Go.Proofs.YtckbgeedlobfaaaGreatDoor
namespace Go.Proofs.YtckbgeedlobfaaaGreatDoor
open Go.Px Go.Px.Scan Go.RowKit
theorem Zn7 (o p:ByteArray)(w:World):Ct Tryz.prog Zak.id #[.string o,.string p] w fun v w'=>v = .bool (Zr4 o p)∧w=w':=by
 refine Zak.ct fun R hR=>?_
 unfold Zak.run Zak.b1
 simp[go_sem]
 refine Za (fun h=>?_) (fun h=>?_)<;>simp at h
 ·simp[go_sem,h]
  exact hR _ _ ⟨by unfold Zr4;rw[decide_eq_true h,Bool.true_and],rfl⟩
 ·exact hR _ _ ⟨by simp[Zr4,show ¬p.size≤o.size by omega],rfl⟩
theorem Zsq (o p:ByteArray)(w:World):Ct Tryz.prog Zco.id #[.string o,.string p] w fun v w'=>v = .bool (Zr4 o p)∧w=w':=by
 refine Zco.ct fun R hR=>?_
 unfold Zco.run Zco.b1
 refine Zf (Zn7 o p w) ?_
 rintro _ _ ⟨rfl,rfl⟩
 exact hR _ _ ⟨rfl,rfl⟩
def idx {α:Type}(q:α→Bool):List α→Int
 | []=> -1
 | x::l=>if q x then 0 else if idx q l = -1 then -1 else idx q l+1
theorem ZZ173 {α:Type}(q:α→Bool):∀l,-1≤idx q l
 | []=>Int.le_refl _
 | x::l=>by unfold idx;have:=ZZ173 q l;split<;>(try split)<;>omega
theorem Zuh {α:Type}(q:α→Bool):∀l,decide (0≤idx q l)=l.any q
 | []=>rfl
 | x::l=>by
  have h:=Zuh q l
  have hg:=ZZ173 q l
  unfold idx
  rw[List.any_cons,←h]
  cases q x
  ·by_cases h1:idx q l = -1
   ·simp[h1]
   ·simp[h1];omega
  ·simp
theorem Zx5 {α:Type}(q:α→Bool):∀(l:List α) (k:Nat) (hk:k<l.length),(∀i (_:i<k),∀x,l[i]?=some x→q x=false)→q (l[k])=true→idx q l=k
 | x::l,0,_,_,h=>by unfold idx;simp at h;rw[if_pos h];rfl
 | x::l,k+1,hk,hn,h=>by
  have:=Zx5 q l k (by simpa using hk) (fun i hi y hy=>hn (i+1) (by omega) y (by simpa using hy)) (by simpa using h)
  unfold idx
  have h0:=hn 0 (by omega) x rfl
  rw[h0,this]
  have hne:¬((k:Int) = -1):=by omega
  simp[hne]
theorem ZZ8 {α:Type}(q:α→Bool):∀(l:List α),(∀(i:Nat) (x:α),l[i]?=some x→q x=false)→idx q l = -1
 | [],_=>rfl
 | x::l,hn=>by
  have:=ZZ8 q l (fun i y hy=>hn (i+1) y (by simpa using hy))
  unfold idx
  rw[hn 0 x rfl,this]
  rfl
theorem Znf {l:List ByteArray}{A:Option Addr}{c B:Nat}{g:FuncId}{cap:Array Value}{q:ByteArray→Bool}{I:World→Prop}(hl:l.length≤maxLen)
  (hs:∀w,I w→(Zo rStr).at1 w B (.slice A l.length c) l) (hf:∀w,I w→∀o∈l,Ct Tryz.prog g (.string o::cap.toList).toArray w fun v w'=>v = .bool (q o)∧I w') {w:World} (hw:I w) :
  Ct Tryz.prog Ze.id #[.slice A l.length c,.func (.func g) #[] cap] w fun v w'=>v = .int .i64 (idx q l)∧I w':=by
 refine Ze.ct fun R hR=>?_
 unfold Ze.run Ze.b1 Ze.b4
 simp[go_sem]
 refine Ze.l6_intro _ _ _ _ _ _ (fun x w1=>∃k:Nat,x = .int .i64 k∧k≤l.length∧I w1∧∀i (_:i<k),∀x,l[i]?=some x→q x=false) (fun x _=>l.length-iv x) ⟨0,rfl,by omega,hw,fun i hi=>by omega⟩ ?_
 rintro _ w1 ⟨k,rfl,hk,h1,hno⟩ C hC
 unfold Ze.b7
 simp[go_sem]
 refine Za (fun h=>?_) (fun h=>?_)<;>simp at h
 ·obtain ⟨b,o,rfl,hb,hc,hm⟩:=strs_at (hs w1 h1) h
  simp[go_sem,hc,h]
  refine Zi4 (hf w1 h1 l[k] (List.getElem_mem h)) ?_
  rintro _ w2 ⟨rfl,h2⟩
  refine Za (fun h3=>?_) (fun h3=>?_)
  ·exact hR _ _ ⟨by rw[Zx5 q l k h hno h3],h2⟩
  ·simp[go_sem,Zau h hl]
   refine hC _ _ ⟨k+1,rfl,h,h2,fun i hi x hx=>?_⟩ (by simp[iv];omega)
   rcases Nat.lt_or_ge i k with h4|h4
   ·exact hno i h4 x hx
   ·obtain rfl:i=k:=by omega
    rw[List.getElem?_eq_getElem h]at hx
    cases hx;exact h3
 ·unfold Ze.b3
  refine hR _ _ ⟨?_,h1⟩
  rw[ZZ8 q l (fun i x hx=>hno i (by have:=(List.getElem?_eq_some_iff.1 hx).1;omega) x hx)]
theorem Zng {l:List ByteArray}{A:Option Addr}{c B:Nat}{g:FuncId}{cap:Array Value}{q:ByteArray→Bool}{I:World→Prop}(hl:l.length≤maxLen)
  (hs:∀w,I w→(Zo rStr).at1 w B (.slice A l.length c) l) (hf:∀w,I w→∀o∈l,Ct Tryz.prog g (.string o::cap.toList).toArray w fun v w'=>v = .bool (q o)∧I w') {w:World} (hw:I w) :
  Ct Tryz.prog Zl.id #[.slice A l.length c,.func (.func g) #[] cap] w fun v w'=>v = .bool (l.any q)∧I w':=by
 refine Zl.ct fun R hR=>?_
 unfold Zl.run Zl.b1
 refine Zf (Znf hl hs hf hw) ?_
 rintro _ w1 ⟨rfl,h1⟩
 have:=Zuh q l
 generalize idx q l=n at *
 simp[go_sem]
 exact hR _ _ ⟨by rw[this],h1⟩
theorem Zun {l:List ByteArray}{A:Option Addr}{c B:Nat}{w:World}(hl:l.length≤maxLen)(hs:(Zo rStr).at1 w B (.slice A l.length c) l)(p:ByteArray) :
  Ct Tryz.prog Zw.id #[.slice A l.length c,.string p] w fun v w'=>v = .int .i64 (idx (fun o=>p.toList == o.toList) l)∧w=w':=by
 refine Zw.ct fun R hR=>?_
 unfold Zw.run Zw.b1 Zw.b4
 simp[go_sem]
 refine Zw.l6_intro _ _ _ _ _ _ (fun x w1=>∃k:Nat,x = .int .i64 k∧k≤l.length∧w=w1∧∀i (_:i<k),∀x,l[i]?=some x→(p.toList == x.toList)=false) (fun x _=>l.length-iv x) ⟨0,rfl,by omega,rfl,fun i hi=>by omega⟩ ?_
 rintro _ _ ⟨k,rfl,hk,rfl,hno⟩ C hC
 unfold Zw.b7
 simp[go_sem]
 refine Za (fun h=>?_) (fun h=>?_)<;>simp at h
 ·obtain ⟨b,o,rfl,hb,hc,hm⟩:=strs_at hs h
  simp only[go_sem,hc,h,decide_true]
  simp[go_sem,hc,h]
  refine Za (fun h3=>?_) (fun h3=>?_)
  ·exact hR _ _ ⟨by rw[Zx5 _ l k h hno (by simpa using h3)],rfl⟩
  ·simp[go_sem,Zau h hl]
   refine hC _ _ ⟨k+1,rfl,h,rfl,fun i hi x hx=>?_⟩ (by simp[iv];omega)
   rcases Nat.lt_or_ge i k with h4|h4
   ·exact hno i h4 x hx
   ·obtain rfl:i=k:=by omega
    rw[List.getElem?_eq_getElem h]at hx
    cases hx;simpa using h3
 ·unfold Zw.b3
  refine hR _ _ ⟨?_,rfl⟩
  rw[ZZ8 _ l (fun i x hx=>hno i (by have:=(List.getElem?_eq_some_iff.1 hx).1;omega) x hx)]
theorem Zos {l:List ByteArray}{A:Option Addr}{c B:Nat}{w:World}(hl:l.length≤maxLen)(hs:(Zo rStr).at1 w B (.slice A l.length c) l)(p:ByteArray) :
  Ct Tryz.prog Zat.id #[.slice A l.length c,.string p] w fun v w'=>v = .bool (l.any fun o=>p.toList == o.toList)∧w=w':=by
 refine Zat.ct fun R hR=>?_
 unfold Zat.run Zat.b1
 refine Zf (Zun hl hs p) ?_
 rintro _ _ ⟨rfl,rfl⟩
 have:=Zuh (fun o:ByteArray=>p.toList == o.toList) l
 generalize idx (fun o:ByteArray=>p.toList == o.toList) l=n at *
 simp[go_sem]
 exact hR _ _ ⟨by rw[this],rfl⟩
end Go.Proofs.YtckbgeedlobfaaaGreatDoor
namespace Go.Proofs.YtckbgeedlobfaaaGreatDoor
open Go.Px Go.Px.Scan Go.RowKit
structure Ord (w:World)(B:Nat):Prop where
 pos:0<B
 glob:∃A c,w.cell? ⟨0,0,none⟩=some (.slice A 7 c)∧(Zo rStr).at1 w B (.slice A 7 c) Zd9
theorem Ord.chg {F:Nat→Prop}{w w':World}{B:Nat}(h:Ord w B)(hc:Chg F w w')(hB:B≤w.heap.size)(hF:∀k,k<B→¬F k):Ord w' B:=by
 obtain ⟨A,c,h1,h2⟩:=h.glob
 have hb:=hc.below hB hF
 exact ⟨h.pos,A,c,(hc.at h1 (hF 0 h.pos)),Rep.below h2 hb⟩
theorem ZZ54 {w:World}{b k j p f:Nat}{s o:ByteArray}(h:Sc w b s j)(hp:w.cell? ⟨p,0,none⟩=some (.pointer (some ⟨b,0,none⟩)))(hf:w.cell? ⟨f,0,none⟩=some (.int .i64 k))(hk:k≤j)(hj:j<s.size) :
  Ct Tryz.prog Zbx.id #[.string o,.pointer (some ⟨p,0,none⟩),.pointer (some ⟨f,0,none⟩)] w fun v w'=>v = .bool (Zr4 o (s.extract k (j+1)))∧w.drew=w':=by
 refine Zbx.ct fun R hR=>?_
 unfold Zbx.run Zbx.b1
 have hw:=Zau hj h.sz
 have e1:(0:Int)≤j+1∧(j:Int)+1≤s.size:=by omega
 have e2:(k:Int)≤j+1:=by omega
 simp[go_sem,h.c0,h.c1,hp,hf,hw,e1,e2]
 refine Zf (Zsq _ _ _) ?_
 rintro _ _ ⟨rfl,rfl⟩
 exact hR _ _ ⟨rfl,rfl⟩
theorem ZZ154 {w:World}{b k B:Nat}{s:ByteArray}(h:Sc w b s k)(hk:k<s.size)(hO:Ord w B)(hB:B≤b) :
  Ct Tryz.prog Za4.id #[.pointer (some ⟨b,0,none⟩)] w fun v w'=>
   v = .string (if (ordS s k (k+1)).2 then s.extract k (ordS s k (k+1)).1 else ⟨#[]⟩)∧Sc w' b s (ordS s k (k+1)).1∧Chg (·=b) w w':=by
 refine Za4.ct fun R hR=>?_
 have hsz:=h.sz
 have hb:=h.lt
 unfold Za4.run Za4.b1
 simp[go_sem,h.c0,h.c1,World.cell?_alloc_lt,hb]
 obtain ⟨w1,hw1⟩:∃w1,w1=(w.alloc (Obj.cells #[Value.pointer (some {block:=b,off:=0 })] 68)).alloc (Obj.cells #[Value.int IntKind.i64 ↑k] 3):=⟨_,rfl⟩
 rw[←hw1]
 have c1:Chg (·=b) w w1:=by rw[hw1];exact ((Chg.refl _ _).alloc _).alloc _
 have c0:Chg (fun _=>False) w w1:=by rw[hw1];exact ((Chg.refl _ _).alloc _).alloc _
 have hp:w1.cell? ⟨w.heap.size,0,none⟩=some (.pointer (some ⟨b,0,none⟩)):=by rw[hw1,World.cell?_alloc_lt _ _ _ (by simp)];simp
 have hf:w1.cell? ⟨w.heap.size+1,0,none⟩=some (.int .i64 k):=by
  rw[hw1]
  have:=World.cell?_alloc_new (w.alloc (Obj.cells #[Value.pointer (some {block:=b,off:=0 })] 68)) #[Value.int IntKind.i64 ↑k] 3 0
  simp
 have h1:Sc w1 b s k:=h.chg c0 id
 have hO1:Ord w1 B:=hO.chg c0 (by omega) (fun _ _=>id)
 have hB1:B≤w1.heap.size:=by have:=h1.lt;omega
 generalize hpe:w.heap.size=p at *
 have hpb:p≠b:=by omega
 have hfb:p+1≠b:=by omega
 clear hw1
 unfold Za4.b4
 simp[go_sem,hp,h1.c0,h1.c1,h1.fr,Zau hk hsz]
 have keep:∀{w2},Chg (·=b) w1 w2→w2.cell? ⟨p,0,none⟩=some (.pointer (some ⟨b,0,none⟩))∧w2.cell? ⟨p+1,0,none⟩=some (.int .i64 k)∧Ord w2 B:=fun hc=>
  ⟨hc.at hp hpb,hc.at hf hfb,hO1.chg hc hB1 (fun i hi e=>by omega)⟩
 refine Za4.l6_intro _ _ _ _ (fun w2=>∃j,Sc w2 b s j∧Chg (·=b) w1 w2∧k+1≤j∧ordS s k j=ordS s k (k+1)) (left s b) ⟨k+1,h1.inc hk,Chg.setCell (F:=(·=b)) (p:=⟨b,1,none⟩) (Chg.refl _ _) (Or.inl rfl) _,Nat.le_refl _,rfl⟩ ?_
 rintro w2 ⟨j,h2,hc2,hkj,hs2⟩ C hC
 obtain ⟨hp2,hf2,hO2⟩:=keep hc2
 unfold Za4.b7
 simp[go_sem,hp2]
 refine Zf (Zt7 h2 (p:=Zcd) (fun c hc w=>Zn9 c w hc)) ?_
 rintro _ w3 ⟨rfl,hw3⟩
 have h3:Sc w3 b s j:=by rw[←hw3];exact h2.drew
 have hc3:Chg (·=b) w1 w3:=by rw[←hw3];exact hc2.drew
 clear hw3
 obtain ⟨hp3,hf3,hO3⟩:=keep hc3
 refine Za (fun h4=>?_) (fun h4=>?_)
 ·simp at h4
  obtain ⟨A,c,hg,hsl⟩:=hO3.glob
  simp[go_sem,hg]
  refine Zf (Zng (l:=Zd9) (B:=B) (q:=fun o=>Zr4 o (s.extract k (j+1))) (I:=fun w4=>Sc w4 b s j∧Chg (·=b) w1 w4∧(Zo rStr).at1 w4 B (.slice A 7 c) Zd9) (by decide) (fun w4 h=>h.2.2) ?_ ⟨h3,hc3,hsl⟩) ?_
  ·rintro w4 ⟨h5,hc5,hsl5⟩ o ho
   obtain ⟨hp5,hf5,hO5⟩:=keep hc5
   refine (ZZ54 h5 hp5 hf5 (by omega) h4.1).mono ?_
   rintro v w6 ⟨rfl,rfl⟩
   exact ⟨rfl,h5.drew,hc5.drew,hsl5⟩
  ·rintro _ w4 ⟨rfl,h5,hc5,hsl5⟩
   obtain ⟨hp5,hf5,hO5⟩:=keep hc5
   have hbe:(Zd9.any fun o=>Zr4 o (s.extract k (j+1)))=Scan.begun (s.extract k (j+1)):=rfl
   rw[hbe]
   simp[go_sem]
   refine Za (fun h6=>?_) (fun h6=>?_)<;>simp at h6
   ·have e:ordS s k (k+1)=(j,false):=by rw[←hs2];unfold ordS;rw[if_pos h4,if_neg (by simp[h6])]
    exact hR _ _ ⟨by rw[e];rfl,by rw[e];exact h5,c1.trans hc5⟩
   ·simp[go_sem,hp5,h5.c0,h5.c1,h5.fr,Zau h4.1 hsz]
    refine hC _ ⟨j+1,h5.inc h4.1,hc5.setCell (Or.inl rfl) _,by omega,?_⟩ ?_
    ·rw[←hs2];conv=>rhs;unfold ordS
     rw[if_pos h4,if_pos h6]
    ·rw[(h5.inc h4.1).left,h2.left];omega
 ·have e:ordS s k (k+1)=(j,true):=by rw[←hs2];unfold ordS;rw[if_neg (by simpa using h4)]
  unfold Za4.b3
  simp[go_sem,hp3,hf3,h3.c0,h3.c1,h3.le,show k≤j by omega]
  exact hR _ _ ⟨by rw[e];rfl,by rw[e];exact h3.drew,c1.trans hc3.drew⟩
end Go.Proofs.YtckbgeedlobfaaaGreatDoor
namespace Go.Proofs.YtckbgeedlobfaaaGreatDoor
open Go.Px Go.Px.Scan Go.RowKit
theorem Zog {s:ByteArray}{a e:Nat}(hae:a≤e)(he:e≤s.size):(s.extract a e).toList.isEmpty=decide (e≤a):=by
 have hlen:(s.extract a e).toList.length=e-a:=by
  rw[Lib.extract_toList]
  have:s.data.toList.length=s.size:=by simp
  simp only[List.length_take,List.length_drop,this]
  omega
 rw[Bool.eq_iff_iff,List.isEmpty_iff_length_eq_zero,hlen]
 simp
 omega
def Zlo (s:ByteArray)(k:Nat)(v:Value)(w':World)(b:Nat):Prop :=
 match oneS s k with
 | .bad j=>(∃kd t at',v = .tuple #[.agg #[.int .i64 kd,.string t,.int .i64 at'],.bool false])∧Sc w' b s j
 | .word kd a e n=>v = .tuple #[.agg #[.int .i64 kd,.string (s.extract a e),.int .i64 k],.bool true]∧Sc w' b s n
structure Tri (w:World)(q:Nat)(kd:Int)(t:ByteArray)(k:Int):Prop where
 c0:w.cell? ⟨q,0,none⟩=some (.int .i64 kd)
 c1:w.cell? ⟨q,1,none⟩=some (.string t)
 c2:w.cell? ⟨q,2,none⟩=some (.int .i64 k)
 f0:w.frozen? ⟨q,0,none⟩=false
 f1:w.frozen? ⟨q,1,none⟩=false
 f2:w.frozen? ⟨q,2,none⟩=false
theorem Tri.lt {w q kd t k}(h:Tri w q kd t k):q<w.heap.size:=World.block_lt_of_cell? w _ h.c0
theorem Tri.chg {F:Nat→Prop}{w w' q kd t k}(h:Tri w q kd t k)(hc:Chg F w w')(hF:¬F q):Tri w' q kd t k :=
 ⟨hc.at h.c0 hF,hc.at h.c1 hF,hc.at h.c2 hF,(hc.frozen (p:=⟨q,0,none⟩) h.lt hF).trans h.f0,(hc.frozen (p:=⟨q,1,none⟩) h.lt hF).trans h.f1,(hc.frozen (p:=⟨q,2,none⟩) h.lt hF).trans h.f2⟩
theorem Zya {R:Ending→World→Prop}{w:World}{q:Nat}{kd:Int}{t:ByteArray}{k:Int}{kd':Int}{t':ByteArray}{k':Int}{ok:Bool}(hw:Tri w (q+1) kd t k)(hr:Tri w q kd' t' k')
  (hR:∀w',Chg (·=q) w w'→R (.returned (.tuple #[.agg #[.int .i64 kd,.string t,.int .i64 k],.bool ok])) w') :
  Zk.b16 R (.pointer (some ⟨q,0,none⟩)) (.pointer (some ⟨q+1,0,none⟩)) (.bool ok) w:=by
 unfold Zk.b16
 simp[go_sem,hw.c0,hw.c1,hw.c2,hr.c0,hr.c1,hr.c2,hr.f0,hr.f1,hr.f2,World.cell?_setCell_other]
 exact hR _ ((((Chg.refl (·=q) w).setCell (p:=⟨q,0,none⟩) (Or.inl rfl) _).setCell (p:=⟨q,1,none⟩) (Or.inl rfl) _).setCell (p:=⟨q,2,none⟩) (Or.inl rfl) _)
theorem Ztw {s:ByteArray}{k:Nat}(hk:k<s.size):s.extract k (k+1)=⟨#[(bt s k).toUInt8]⟩:=by
 rw[Lib.extract_eq]
 congr 1
 have hk':k<s.data.toList.length:=by simpa using hk
 rw[show k+1-k=1 by omega,List.drop_eq_getElem_cons hk',List.take_succ_cons,List.take_zero,Zfa]
 simp[List.getD,List.getElem?_eq_getElem hk']
theorem ZZ49 {w:World}{b k B:Nat}{s:ByteArray}(h:Sc w b s k)(hk:k<s.size)(hO:Ord w B)(hB:B≤b) :
  Ct Tryz.prog Zk.id #[.pointer (some ⟨b,0,none⟩)] w fun v w'=>Zlo s k v w' b∧Chg (·=b) w w':=by
 refine Zk.ct fun R hR=>?_
 have hsz:=h.sz
 have hb:=h.lt
 unfold Zk.run Zk.b1
 simp[go_sem,h.c0,h.c1,World.cell?_alloc_lt,hb]
 obtain ⟨w1,hw1⟩:∃w1,w1=(w.alloc (Obj.cells #[Value.int IntKind.i64 0,Value.string {data:=#[] },Value.int IntKind.i64 0] 73)).alloc (Obj.cells #[Value.int IntKind.i64 0,Value.string {data:=#[] },Value.int IntKind.i64 ↑k] 73):=⟨_,rfl⟩
 rw[←hw1]
 have c1:Chg (·=b) w w1:=by rw[hw1];exact ((Chg.refl _ _).alloc _).alloc _
 have c0:Chg (fun _=>False) w w1:=by rw[hw1];exact ((Chg.refl _ _).alloc _).alloc _
 have hr1:Tri w1 w.heap.size 0 ⟨#[]⟩ 0:=by rw[hw1];constructor<;>first | (rw[World.cell?_alloc_lt _ _ _ (by simp)];simp) | (rw[World.frozen?_alloc_old _ _ _ (by simp)];simp)
 have ht1:Tri w1 (w.heap.size+1) 0 ⟨#[]⟩ k:=by
  rw[hw1]
  have e:w.heap.size+1=(w.alloc (Obj.cells #[Value.int IntKind.i64 0,Value.string {data:=#[] },Value.int IntKind.i64 0] 73)).heap.size:=by simp
  rw[e]
  constructor<;>simp
 have h1:Sc w1 b s k:=h.chg c0 id
 have hO1:Ord w1 B:=hO.chg c0 (by omega) (fun _ _=>id)
 clear hw1
 have hqw:w.heap.size≤w.heap.size:=Nat.le_refl _
 generalize hq:w.heap.size=q at hr1 ht1 hb hqw ⊢
 have fin:∀{w2 w3},Chg (fun i=>i=b∨q≤i) w w2→Chg (·=q) w2 w3→Chg (·=b) w w3:=fun h2 h3=>
  (h2.trans' h3 (fun i hi e=>by omega)).mono (fun i hi e=>by omega)
 have c1':Chg (fun i=>i=b∨q≤i) w w1:=c1.mono (fun i _ e=>Or.inl e)
 have fin2:∀{w2},Chg (fun i=>i=b∨q≤i) w w2→Chg (·=b) w w2:=fun h2=>h2.mono (fun i hi e=>by omega)
  -- where there is no word
 have none3:∀{w2 kd t},oneS s k = .bad k→Sc w2 b s k→Tri w2 q 0 ⟨#[]⟩ 0→Tri w2 (q+1) kd t k→Chg (fun i=>i=b∨q≤i) w w2→Zk.b3 R (.pointer (some ⟨q,0,none⟩)) (.pointer (some ⟨q+1,0,none⟩)) w2:=by
  intro w2 kd t he h2 hr hw hc
  unfold Zk.b3
  simp[go_sem,hw.c0,hw.c1,hw.c2,hr.c0,hr.c1,hr.c2,hr.f0,hr.f1,hr.f2,World.cell?_setCell_other]
  have hc3:=((((Chg.refl (·=q) w2).setCell (p:=⟨q,0,none⟩) (Or.inl rfl) (.int .i64 kd)).setCell (p:=⟨q,1,none⟩) (Or.inl rfl) (.string t)).setCell (p:=⟨q,2,none⟩) (Or.inl rfl) (.int .i64 k))
  refine hR _ _ ⟨?_,fin hc hc3⟩
  unfold Zlo
  rw[he]
  exact ⟨⟨_,_,_,rfl⟩,h2.chg hc3 (by omega)⟩
 unfold Zk.b4
 simp[go_sem,h1.c0,h1.c1,Zdc,hk]
 unfold Zk.b6
 refine Zf (Zin _ _ _) ?_
 rintro _ w2 ⟨rfl,hw2⟩
 have h2:Sc w2 b s k:=by rw[←hw2];exact h1.drew
 have hr2:Tri w2 q 0 ⟨#[]⟩ 0:=by rw[←hw2];exact ⟨hr1.c0,hr1.c1,hr1.c2,hr1.f0,hr1.f1,hr1.f2⟩
 have ht2:Tri w2 (q+1) 0 ⟨#[]⟩ k:=by rw[←hw2];exact ⟨ht1.c0,ht1.c1,ht1.c2,ht1.f0,ht1.f1,ht1.f2⟩
 have hO2:Ord w2 B:=by rw[←hw2];exact hO1.chg (F:=fun _=>False) (Chg.refl _ _).drew (by have:=h1.lt;omega) (fun _ _=>id)
 have hc2:Chg (fun i=>i=b∨q≤i) w w2:=by rw[←hw2];exact c1'.drew
 clear hw2 hO1 hr1 ht1 h1
 have hsg:=Zw4 (bt s k) (Zxp s k)
 simp at hsg
 simp[go_sem]
 rw[hsg]
 clear hsg
 unfold Zk.b7
 refine Za (fun h3=>?_) (fun h3=>?_)
 ·unfold Zk.b8
  have hx:=Ztw hk
  simp[go_sem,h2.c0,h2.c1,h2.fr,Zau hk hsz,ht2.c0,ht2.c1,ht2.c2,hr2.c0,hr2.c1,hr2.c2,ht2.f0,ht2.f1,hr2.f0,hr2.f1,hr2.f2,World.cell?_setCell_other,show ¬b=q by omega,show ¬b=q+1 by omega,show ¬q+1=b by omega,show ¬q=b by omega]
  have henc:Utf8.encode ((bt s k:Nat):Int)=s.extract k (k+1):=by
   rw[hx]
   simp[Zot]at h3
   rcases h3 with h3|h3|h3<;>rw[h3]<;>rfl
  rw[henc]
  have hc5:=hc2.setCell (p:=⟨b,1,none⟩) (Or.inl (Or.inl rfl)) (.int .i64 ((k:Int)+1))
  have h5:=h2.inc hk
  have hc6:=(((((Chg.refl (fun i=>q≤i) (w2.setCell ⟨b,1,none⟩ (.int .i64 ((k:Int)+1)))).setCell (p:=⟨q+1,0,none⟩) (Or.inl (by simp)) (.int .i64 4)).setCell (p:=⟨q+1,1,none⟩) (Or.inl (by simp)) (.string (s.extract k (k+1)))).setCell
   (p:=⟨q,0,none⟩) (Or.inl (by simp)) (.int .i64 4)).setCell (p:=⟨q,1,none⟩) (Or.inl (by simp)) (.string (s.extract k (k+1)))).setCell (p:=⟨q,2,none⟩) (Or.inl (by simp)) (.int .i64 k)
  refine hR _ _ ⟨?_,fin2 (hc5.trans' hc6 fun i _ e=>Or.inr e)⟩
  unfold Zlo oneS
  rw[if_pos h3]
  exact ⟨rfl,h5.chg hc6 (by omega)⟩
 ·have sign0:∀o:One,(if Zot (bt s k)=true then One.word 4 k (k+1) (k+1) else o)=o:=fun o=>by rw[if_neg (by simp[h3])]
  unfold Zk.b9
  simp[go_sem]
  unfold Zk.b10
  refine Za (fun h4=>?_) (fun h4=>?_)<;>simp at h4
  ·have h4:bt s k=37:=by omega
   unfold Zk.b11
   refine Zf (ZZ154 h2 hk hO2 hB) ?_
   rintro _ w3 ⟨rfl,h5,hc5⟩
   generalize ht:(if (ordS s k (k+1)).2=true then s.extract k (ordS s k (k+1)).1 else ⟨#[]⟩)=t
   have hr3:=hr2.chg hc5 (by omega)
   have ht3:=ht2.chg hc5 (by omega)
   have hO3:=hO2.chg hc5 (by have:=h2.lt;omega) (fun i hi e=>by omega)
   have hc3:=hc2.trans' hc5 (fun i _ e=>Or.inl e)
   obtain ⟨A,c,hg,hsl⟩:=hO3.glob
   simp[go_sem,ht3.c0,ht3.c1,ht3.c2,ht3.f0,ht3.f1,World.cell?_setCell_other,hg]
   generalize hw4:((w3.setCell {block:=q+1,off:=0 } (Value.int IntKind.i64 3)).setCell {block:=q+1,off:=1 } (Value.string t)).drew=w4
   have hc34:Chg (·=q+1) w3 w4:=by rw[←hw4];exact (((Chg.refl (·=q+1) w3).setCell (p:=⟨q+1,0,none⟩) (Or.inl rfl) _).setCell (p:=⟨q+1,1,none⟩) (Or.inl rfl) _).drew
   have ht4:Tri w4 (q+1) 3 t k:=by
    rw[←hw4]
    constructor<;>simp[go_sem,ht3.c0,ht3.c1,ht3.c2,ht3.f0,ht3.f1,ht3.f2,World.cell?_setCell_other]
   have hr4:=hr3.chg hc34 (by omega)
   have h6:=h5.chg hc34 (by omega)
   have hsl4:=Rep.below hsl (hc34.below (B:=B) (by have:=h5.lt;omega) (fun i hi e=>by omega))
   have hc4:=hc3.trans' hc34 (fun i _ e=>Or.inr (by omega))
   clear hw4
   refine Zf (Zos (l:=Zd9) (by decide) hsl4 t) ?_
   rintro _ _ ⟨rfl,rfl⟩
   simp[go_sem,ht4.c0,ht4.c1,ht4.c2,hr4.c0,hr4.c1,hr4.c2,hr4.f0,hr4.f1,hr4.f2,World.cell?_setCell_other]
   have hc5':=((((Chg.refl (·=q) w4).setCell (p:=⟨q,0,none⟩) (Or.inl rfl) (.int .i64 3)).setCell (p:=⟨q,1,none⟩) (Or.inl rfl) (.string t)).setCell (p:=⟨q,2,none⟩) (Or.inl rfl) (.int .i64 k))
   refine hR _ _ ⟨?_,fin2 (hc4.trans' hc5' (fun i _ e=>Or.inr (by omega)))⟩
   have h7:=h6.chg hc5' (by omega)
   unfold Zlo oneS
   rw[sign0,if_pos h4]
   cases ho:(ordS s k (k+1)).2 with
   | true=>
    rw[ho,if_pos rfl]at ht
    have hwh:(Zd9.any fun o=>t.toList == o.toList)=whole t:=rfl
    rw[Bool.true_and,ht]
    cases hw:whole t with
    | true=>exact ⟨by rw[hwh,hw,ht];rfl,h7⟩
    | false=>exact ⟨⟨_,_,_,by rw[hwh,hw]⟩,h7⟩
   | false=>
    rw[ho]at ht
    have ht':t=⟨#[]⟩:=by rw[←ht];rfl
    have hno:(Zd9.any fun o=>t.toList == o.toList)=false:=by rw[ht'];decide +kernel
    exact ⟨⟨_,_,_,by rw[hno]⟩,h7⟩
  ·have pct0:∀o o':One,(if bt s k=37 then o' else o)=o:=fun o o'=>by rw[if_neg (by omega)]
   unfold Zk.b12
   simp[go_sem]
   unfold Zk.b13
   refine Za (fun h4=>?_) (fun h4=>?_)<;>simp at h4
   ·have h4:bt s k=39:=by omega
    unfold Zk.b14
    simp[go_sem,h2.c0,h2.c1,h2.fr,Zau hk hsz]
    have h5:=h2.inc hk
    have hc5:Chg (·=b) w2 (w2.setCell ⟨b,1,none⟩ (.int .i64 ((k:Int)+1))):=Chg.setCell (F:=(·=b)) (p:=⟨b,1,none⟩) (Chg.refl _ _) (Or.inl rfl) _
    refine Zf (ZZ168 16 (by omega) h5 (p:=Zb3) (fun c hc w=>ZZ139 c w)) ?_
    rintro _ w3 ⟨rfl,h6,hc6⟩
    have hc7:=hc5.trans hc6
    generalize he:runS Zb3 s (k+1) 16=e at *
    have hr3:=hr2.chg hc7 (by omega)
    have ht3:=ht2.chg hc7 (by omega)
    have hc3:=hc2.trans' hc7 (fun i _ e=>Or.inl e)
    clear hc5 hc6 hc7 h5
    simp[go_sem,ht3.c0,ht3.c1,ht3.c2,ht3.f0,ht3.f1,World.cell?_setCell_other]
    generalize hw4:((w3.setCell {block:=q+1,off:=0 } (Value.int IntKind.i64 2)).setCell {block:=q+1,off:=1 } (Value.string (s.extract (k+1) e)))=w4
    have hc34:Chg (·=q+1) w3 w4:=by rw[←hw4];exact (((Chg.refl (·=q+1) w3).setCell (p:=⟨q+1,0,none⟩) (Or.inl rfl) _).setCell (p:=⟨q+1,1,none⟩) (Or.inl rfl) _)
    have ht4:Tri w4 (q+1) 2 (s.extract (k+1) e) k:=by
     rw[←hw4]
     constructor<;>simp[go_sem,ht3.c0,ht3.c1,ht3.c2,ht3.f0,ht3.f1,ht3.f2,World.cell?_setCell_other]
    have hr4:=hr3.chg hc34 (by omega)
    have h7:=h6.chg hc34 (by omega)
    have hc4:=hc3.trans' hc34 (fun i _ e=>Or.inr (by omega))
    clear hw4
    have hke:k+1≤e:=by rw[←he];exact Zr5 _ _ _ _
    rw[Zog hke h6.le]
    have quote0:∀{w5 ok},Tri w5 (q+1) 2 (s.extract (k+1) e) k→Tri w5 q 0 ⟨#[]⟩ 0→Chg (fun i=>i=b∨q≤i) w w5→(Sc w5 b s (if ok then e+1 else e))→ok=decide (k+1<e∧e<s.size∧bt s e=39) →
      Zk.b16 R (.pointer (some ⟨q,0,none⟩)) (.pointer (some ⟨q+1,0,none⟩)) (.bool ok) w5:=by
     intro w5 ok hw hr hc h8 hok
     refine Zya hw hr fun w6 hc6=>hR _ _ ⟨?_,fin hc hc6⟩
     have h9:=h8.chg hc6 (by omega)
     unfold Zlo oneS
     rw[sign0,pct0,if_pos h4,he]
     cases ok with
     | true=>rw[if_pos (of_decide_eq_true hok.symm)];exact ⟨rfl,h9⟩
     | false=>rw[if_neg (of_decide_eq_false hok.symm)];exact ⟨⟨_,_,_,rfl⟩,h9⟩
    refine Za (fun h8=>?_) (fun h8=>?_)<;>simp at h8
    ·refine Zf (Zt7 h7 (p:=Zrf) (fun c hc w=>ZZ79 c w)) ?_
     rintro _ w5 ⟨rfl,hw5⟩
     have ht5:Tri w5 (q+1) 2 (s.extract (k+1) e) k:=by rw[←hw5];exact ⟨ht4.c0,ht4.c1,ht4.c2,ht4.f0,ht4.f1,ht4.f2⟩
     have hr5:Tri w5 q 0 ⟨#[]⟩ 0:=by rw[←hw5];exact ⟨hr4.c0,hr4.c1,hr4.c2,hr4.f0,hr4.f1,hr4.f2⟩
     have h9:Sc w5 b s e:=by rw[←hw5];exact h7.drew
     have hc5:Chg (fun i=>i=b∨q≤i) w w5:=by rw[←hw5];exact hc4.drew
     clear hw5
     unfold Zk.b15
     refine Za (fun h10=>?_) (fun h10=>?_)
     ·have h11:=h10
      simp[Zrf]at h11
      rw[h10]
      simp[go_sem,h9.c0,h9.c1,h9.fr,Zau h11.1 hsz]
      have hc6:Chg (·=b) w5 (w5.setCell ⟨b,1,none⟩ (.int .i64 ((e:Int)+1))):=Chg.setCell (F:=(·=b)) (p:=⟨b,1,none⟩) (Chg.refl _ _) (Or.inl rfl) _
      exact quote0 (ht5.chg hc6 (by omega)) (hr5.chg hc6 (by omega)) (hc5.trans' hc6 (fun i _ e=>Or.inl e)) (h9.inc h11.1) (decide_eq_true ⟨h8,h11.1,h11.2⟩).symm
     ·have h11:=h10
      simp[Zrf]at h11
      rw[h10]
      exact quote0 ht5 hr5 hc5 h9 (decide_eq_false (fun h12=>h11 h12.2.1 h12.2.2)).symm
    ·unfold Zk.b15
     simp only[Zf8]
     exact quote0 ht4 hr4 hc4 h7 (decide_eq_false (fun h12=>by omega)).symm
   ·have quo0:∀o o':One,(if bt s k=39 then o' else o)=o:=fun o o'=>by rw[if_neg (by omega)]
    unfold Zk.b17
    refine Zf (Zn9 _ _ (Zxp s k)) ?_
    rintro _ _ ⟨rfl,rfl⟩
    have name:(Zcd (bt s k) || decide (bt s k=95))=true→Zk.b18 R (.pointer (some ⟨b,0,none⟩)) (.pointer (some ⟨q,0,none⟩)) (.pointer (some ⟨q+1,0,none⟩)) (.bool true) w2:=by
     intro hl
     unfold Zk.b18
     simp only[Zvp]
     refine Zf (ZZ168 16 (by omega) h2 (p:=Zbq) (fun c hc w=>Zvd c w hc)) ?_
     rintro _ w3 ⟨rfl,h6,hc6⟩
     generalize he:runS Zbq s k 16=e at *
     have hr3:=hr2.chg hc6 (by omega)
     have ht3:=ht2.chg hc6 (by omega)
     have hc3:=hc2.trans' hc6 (fun i _ e=>Or.inl e)
     simp[go_sem,ht3.c0,ht3.c1,ht3.c2,ht3.f0,ht3.f1,World.cell?_setCell_other]
     generalize hw4:((w3.setCell {block:=q+1,off:=0 } (Value.int IntKind.i64 1)).setCell {block:=q+1,off:=1 } (Value.string (s.extract k e))).drew=w4
     have hc34:Chg (·=q+1) w3 w4:=by rw[←hw4];exact (((Chg.refl (·=q+1) w3).setCell (p:=⟨q+1,0,none⟩) (Or.inl rfl) _).setCell (p:=⟨q+1,1,none⟩) (Or.inl rfl) _).drew
     have ht4:Tri w4 (q+1) 1 (s.extract k e) k:=by
      rw[←hw4]
      constructor<;>simp[go_sem,ht3.c0,ht3.c1,ht3.c2,ht3.f0,ht3.f1,ht3.f2,World.cell?_setCell_other]
     have hr4:=hr3.chg hc34 (by omega)
     have h7:=h6.chg hc34 (by omega)
     have hc4:=hc3.trans' hc34 (fun i _ e=>Or.inr (by omega))
     clear hw4
     refine Zf (Zt7 h7 (p:=Zbq) (fun c hc w=>Zvd c w hc)) ?_
     rintro _ _ ⟨rfl,rfl⟩
     simp[go_sem,ht4.c0,ht4.c1,ht4.c2,hr4.c0,hr4.c1,hr4.c2,hr4.f0,hr4.f1,hr4.f2,World.cell?_setCell_other]
     have hc5':=((((Chg.refl (·=q) w4).setCell (p:=⟨q,0,none⟩) (Or.inl rfl) (.int .i64 1)).setCell (p:=⟨q,1,none⟩) (Or.inl rfl) (.string (s.extract k e))).setCell (p:=⟨q,2,none⟩) (Or.inl rfl) (.int .i64 k)).drew
     refine hR _ _ ⟨?_,fin hc4 hc5'⟩
     have h9:=h7.chg hc5' (by omega)
     unfold Zlo oneS
     rw[sign0,pct0,quo0,if_pos hl,he]
     by_cases hin:e<s.size∧Zbq (bt s e)=true
     ·rw[if_pos hin]
      have hno:(!decide (e<s.size) || !Zbq (bt s e))=false:=by simp[hin.1,hin.2]
      exact ⟨⟨_,_,_,by rw[hno]⟩,h9⟩
     ·rw[if_neg hin]
      refine ⟨?_,h9⟩
      have:(!decide (e<s.size) || !Zbq (bt s e))=true:=by
       by_cases h1:e<s.size
       ·have:=fun h2=>hin ⟨h1,h2⟩
        simp at this
        simp[this]
       ·simp[h1]
      rw[this];rfl
    refine Za (fun h5=>?_) (fun h5=>?_)
    ·exact name (by simp[h5])
    ·simp[go_sem]
     by_cases h95:bt s k=95
     ·rw[show (((bt s k:Nat):Int) == 95)=true by simp;omega]
      exact name (by simp[h95])
     ·rw[show (((bt s k:Nat):Int) == 95)=false by simp;omega]
      unfold Zk.b18
      simp only[Zf8]
      refine none3 ?_ h2 hr2 ht2 hc2
      unfold oneS
      rw[sign0,pct0,quo0,if_neg (by simp[h5,h95])]
end Go.Proofs.YtckbgeedlobfaaaGreatDoor
namespace Go.Proofs.YtckbgeedlobfaaaGreatDoor
open Go.Px Go.Px.Scan Go.RowKit
def wdV (x:Wd):Value := .agg #[.int .i64 x.1,.string x.2.1,.int .i64 x.2.2]
def badV:Option Nat→Value | none=> .int .i64 (-1) | some k=> .int .i64 k
theorem ZZ186 {w:World}{b k B:Nat}{s:ByteArray}{g:FuncId}{cap:Array Value}{I:List Wd→World→Prop}{G:Nat→Prop}
  (hI:∀pre w w',I pre w→Chg (·=b) w w'→I pre w') (hGb:¬G b) (hGB:∀i,i<B→¬G i)
  (hg:∀pre x w,I pre w→pre++[x] <+: (allS s k).1→Ct Tryz.prog g (wdV x::cap.toList).toArray w fun v w'=>v = .bool true∧I (pre++[x]) w'∧Chg G w w')
  (h:Sc w b s k) (hO:Ord w B) (hB:B≤b) (h0:I [] w) :
  Ct Tryz.prog Zv.id #[.pointer (some ⟨b,0,none⟩),.func (.func g) #[] cap] w fun v w'=>v=badV (allS s k).2∧I (allS s k).1 w'∧Chg (fun i=>i=b∨G i) w w':=by
 refine Zv.ct fun R hR=>?_
 have hsz:=h.sz
 have hb:=h.lt
 unfold Zv.run Zv.b1
 refine Zv.l5_intro _ _ _ _ (fun w1=>∃j pre,Sc w1 b s j∧I pre w1∧Chg (fun i=>i=b∨G i) w w1∧Ord w1 B∧pre++(allS s j).1=(allS s k).1∧(allS s j).2=(allS s k).2) (left s b)
  ⟨k,[],h,h0,Chg.refl _ _,hO,rfl,rfl⟩ ?_
 rintro w1 ⟨j,pre,h1,hi1,hc1,hO1,ha1,ha2⟩ C hC
 unfold Zv.b6
 refine Zf (Zx9 h1) ?_
 rintro _ w2 ⟨rfl,h2,hc2⟩
 have hlt:=h2.lt
 have hlt1:=h1.lt
 have hi2:=hI _ _ _ hi1 hc2
 have hO2:=hO1.chg hc2 (by omega) (fun i hi e=>by omega)
 have hc2':=hc1.trans' hc2 (fun i _ e=>Or.inl e)
 refine Za (fun h3=>?_) (fun h3=>?_)<;>simp at h3
 ·refine Zf (ZZ49 h2 h3 hO2 hB) ?_
  rintro v w3 ⟨hn,hc3⟩
  have hi3:=hI _ _ _ hi2 hc3
  have hO3:=hO2.chg hc3 (by omega) (fun i hi e=>by omega)
  have hc3':=hc2'.trans' hc3 (fun i _ e=>Or.inl e)
  unfold Zlo at hn
  cases h4:oneS s (Zb7 s false j) with
  | bad n=>
   rw[h4]at hn
   obtain ⟨⟨kd,t,at',rfl⟩,h5⟩:=hn
   rw[Zlj h3 h4]at ha1 ha2
   simp[go_sem,World.cell?_alloc_lt,h5.lt,h5.c1]
   have hc4:Chg (·=b) w3 (w3.alloc (Obj.cells #[Value.int IntKind.i64 kd,Value.string t,Value.int IntKind.i64 at'] 73)):=(Chg.refl _ _).alloc _
   refine hR _ _ ⟨by rw[←ha2];rfl,?_,hc3'.trans' hc4 (fun i _ e=>Or.inl e)⟩
   rw[←ha1];simpa using hI _ _ _ hi3 hc4
  | word kd a e n=>
   rw[h4]at hn
   obtain ⟨rfl,h5⟩:=hn
   rw[Zhn h3 h4]at ha1 ha2
   simp[go_sem]
   have hc4:Chg (·=b) w3 (w3.alloc (Obj.cells #[Value.int IntKind.i64 kd,Value.string (s.extract a e),Value.int IntKind.i64 (Zb7 s false j)] 73)):=(Chg.refl _ _).alloc _
   have hc40:Chg (fun _=>False) w3 (w3.alloc (Obj.cells #[Value.int IntKind.i64 kd,Value.string (s.extract a e),Value.int IntKind.i64 (Zb7 s false j)] 73)):=(Chg.refl _ _).alloc _
   have h6:=h5.chg hc40 id
   have hO4:=hO3.chg hc40 (by have:=h5.lt;omega) (fun _ _=>id)
   have hi4:=hI _ _ _ hi3 hc4
   have hc4':=hc3'.trans' hc4 (fun i _ e=>Or.inl e)
   generalize w3.alloc (Obj.cells #[Value.int IntKind.i64 kd,Value.string (s.extract a e),Value.int IntKind.i64 (Zb7 s false j)] 73)=w4 at *
   refine Zi4 (hg pre ((kd:Int),s.extract a e,(Zb7 s false j:Int)) w4 hi4 ?_) ?_
   ·rw[←ha1];exact ⟨(allS s n).1,by simp⟩
   ·rintro _ w5 ⟨rfl,hi5,hc5⟩
    simp[go_sem]
    have h7:=h6.chg hc5 hGb
    have hone:=Zht h3 h4
    refine hC _ ⟨n,pre++[((kd:Int),s.extract a e,(Zb7 s false j:Int))],h7,hi5,hc4'.trans' hc5 (fun i _ e=>Or.inr e),hO4.chg hc5 (by have:=h6.lt;omega) hGB,?_,?_⟩ ?_
    ·rw[←ha1];simp
    ·rw[←ha2]
    ·rw[h7.left,h1.left]
     have:=Zqd s false j
     omega
 ·unfold Zv.b3
  rw[Zjo (by omega)]at ha1 ha2
  refine hR _ _ ⟨by rw[←ha2];rfl,?_,hc2'⟩
  rw[←ha1];simpa using hi2
end Go.Proofs.YtckbgeedlobfaaaGreatDoor
namespace Go.Proofs.YtckbgeedlobfaaaGreatDoor
open Go.Px Go.Px.Scan Go.RowKit
def encW (x:Wd):List Value:=[.int .i64 x.1,.string x.2.1,.int .i64 x.2.2]
def Out (p b:Nat)(pre:List Wd)(w:World):Prop:=∃v,w.cell? ⟨p,0,none⟩=some v∧w.frozen? ⟨p,0,none⟩=false∧w.ownsRow (b+1) 73 3 v pre.length (pre.flatMap encW)
theorem ZZ362:(Tryz.prog.info? 73).map (fun i=>(i.zero,i.size,i.bytes))=some (some (.agg #[.int .i64 0,.string ⟨#[]⟩,.int .i64 0]),3,32):=by kernel_rfl
theorem ZZ51 {p b:Nat}{pre:List Wd}{x:Wd}{w:World}(hpb:p<b)(h:Out p b pre w)(hl:pre.length<10000)(hb:b<w.heap.size) :
  Ct Tryz.prog Zds.id #[wdV x,.pointer (some ⟨p,0,none⟩)] w fun v w'=>v = .bool true∧Out p b (pre++[x]) w'∧Chg (fun i=>i=p∨b<i) w w':=by
 refine Zds.ct fun R hR=>?_
 obtain ⟨v,hv,hf,ho⟩:=h
 have hp:=World.block_lt_of_cell? w _ hv
 obtain ⟨i0,hi,hz0,hz1,hz2⟩:=info_parts ZZ362
 unfold Zds.run Zds.b1
 unfold wdV
 generalize hap:Builtin.append_=ap
 simp[go_sem,World.cell?_alloc_lt,hp,hv]
 rw[←hap]
 clear hap ap
 generalize hw2:(w.alloc (Obj.cells #[Value.int IntKind.i64 x.1,Value.string x.2.1,Value.int IntKind.i64 x.2.2] 73)).alloc _=w2
 have hn:∀j u,(encW x)[j]?=some u→w2.cell? ((⟨w.heap.size+1,0,none⟩:Addr).add j)=some u:=by
  rw[←hw2]
  exact Ze9 (w.alloc _) (encW x) 73 (by simp)
 have hc2:Chg (fun _=>False) w w2:=by rw[←hw2];exact ((Chg.refl _ _).alloc _).alloc _
 have ho2:=Zhq ho hc2 (fun _ _=>id)
 have hs2:w2.heap.size=w.heap.size+2:=by rw[←hw2];simp
 clear hw2
 refine Zi5 34 34 73 Tryz.underlying34 hi hz0 hz1 hz2 rfl (by omega) ho2 rfl hn ?_ (by unfold maxLen;omega) (by unfold Zr;omega) (by omega) ?_
 ·intro u hu
  simp[encW]at hu
  rcases hu with rfl|rfl|rfl<;>rfl
 intro g c3 w3 ho3 hg3 hgb
 have hc3:Chg (fun i=>b<i) w2 w3:=Zgd hg3 fun k hk=>(Zcf ho2 hk).1
 have hv3:=(hc2.at hv id)
 have hv4:=hc3.at hv3 (by simp;omega)
 have hf4:w3.frozen? ⟨p,0,none⟩=false:=(hc3.frozen (p:=⟨p,0,none⟩) (by omega) (by simp;omega)).trans ((hc2.frozen (p:=⟨p,0,none⟩) hp id).trans hf)
 simp[go_sem,hv4,hf4]
 have hc2':Chg (fun i=>i=p∨b<i) w w2:=hc2.mono (fun i _ h=>h.elim)
 have hc4:Chg (fun i=>i=p∨b<i) w w3:=hc2'.trans' hc3 (fun i _ h=>Or.inr h)
 refine hR _ _ ⟨rfl,⟨_,World.cell?_setCell_same _ _ _ hv4,by rw[World.frozen?_setCell];exact hf4,?_⟩,hc4.setCell (Or.inl (Or.inl rfl)) _⟩
 have:=Zhq ho3 (Chg.setCell (F:=(·=p)) (p:=⟨p,0,none⟩) (Chg.refl _ _) (Or.inl rfl) (.slice (some ⟨g,0,none⟩) (pre.length+1) c3)) (fun i hi e=>by omega)
 simpa using this
end Go.Proofs.YtckbgeedlobfaaaGreatDoor
namespace Go.Proofs.YtckbgeedlobfaaaGreatDoor
open Go.Px Go.Px.Scan Go.RowKit
def Zjw (code at':Int):Value := .agg #[.int .i64 code,.int .i64 at',.slice none 0 0]
structure Mish (w:World)(m:Nat):Prop where
 c0:w.cell? ⟨m,0,none⟩=some (.int .i64 0)
 c1:w.cell? ⟨m,1,none⟩=some (.int .i64 0)
 c2:w.cell? ⟨m,2,none⟩=some (.slice none 0 0)
 f0:w.frozen? ⟨m,0,none⟩=false
 f1:w.frozen? ⟨m,1,none⟩=false
 f2:w.frozen? ⟨m,2,none⟩=false
theorem Mish.lt {w m}(h:Mish w m):m<w.heap.size:=World.block_lt_of_cell? w _ h.c0
theorem Mish.chg {F:Nat→Prop}{w w' q}(h:Mish w q)(hc:Chg F w w')(hF:¬F q):Mish w' q :=
 ⟨hc.at h.c0 hF,hc.at h.c1 hF,hc.at h.c2 hF,(hc.frozen (p:=⟨q,0,none⟩) h.lt hF).trans h.f0,(hc.frozen (p:=⟨q,1,none⟩) h.lt hF).trans h.f1,(hc.frozen (p:=⟨q,2,none⟩) h.lt hF).trans h.f2⟩
def Zo3 (s:ByteArray)(w:World)(v:Value)(w':World):Prop :=
 match (Zah s).2 with
 | some k=>v = .tuple #[.slice none 0 0,Zjw 10 k]
 | none=>∃sl,v = .tuple #[sl,Zjw 0 0]∧w'.ownsRow w.heap.size 73 3 sl (Zah s).1.length ((Zah s).1.flatMap encW)
theorem Zu3 {w:World}{B:Nat}{s:ByteArray}(hs:s.size≤maxLen)(hO:Ord w B)(hB:B≤w.heap.size) :
  Ct Tryz.prog Zeq.id #[.string s] w fun v w'=>Zo3 s w v w'∧Chg (fun _=>False) w w':=by
 refine Zeq.ct fun R hR=>?_
 unfold Zeq.run Zeq.b1
 simp[go_sem]
 refine Za (fun h=>?_) (fun h=>?_)<;>simp at h
 ·have h':8192<s.size:=by omega
  simp[go_sem,World.cell?_setCell_other]
  refine hR _ _ ⟨?_,(Chg.refl _ _).alloc _⟩
  unfold Zo3 Zah
  rw[if_pos h'];rfl
 ·have h':¬8192<s.size:=by omega
  have hws:Zah s=allS s 0:=by unfold Zah;rw[if_neg h']
  simp[go_sem]
  generalize hw1:((w.alloc (Obj.cells #[Value.int IntKind.i64 0,Value.int IntKind.i64 0,Value.slice none 0 0] 36)).alloc (Obj.cells #[Value.slice none 0 0] 34)).alloc (Obj.cells #[Value.string s,Value.int IntKind.i64 0] 70)=w1
  have c0:Chg (fun _=>False) w w1:=by rw[←hw1];exact (((Chg.refl _ _).alloc _).alloc _).alloc _
  have hsz1:w1.heap.size=w.heap.size+3:=by rw[←hw1];simp
  have hm:Mish w1 w.heap.size:=by
   rw[←hw1]
   constructor<;>first | (rw[World.cell?_alloc_lt _ _ _ (by simp;omega),World.cell?_alloc_lt _ _ _ (by simp)];simp;done) | (rw[World.cell?_alloc_lt _ _ _ (by simp;omega),World.cell?_alloc_lt _ _ _ (by simp)];exact ⟨_,by simp;rfl⟩) | (rw[World.frozen?_alloc_old _ _ _ (by simp;omega),World.frozen?_alloc_old _ _ _ (by simp)];simp)
  have ho:Out (w.heap.size+1) (w.heap.size+2) [] w1:=by
   rw[←hw1]
   refine ⟨.slice none 0 0,?_,?_,World.ownsRow_nil _ _ _ _⟩
   ·rw[World.cell?_alloc_lt _ _ _ (by simp)]
    exact Zck _ _ _ (by simp) 0
   ·rw[World.frozen?_alloc_old _ _ _ (by simp)]
    exact Zcs _ _ _ (by simp) 0
  have hsc:Sc w1 (w.heap.size+2) s 0:=by
   rw[←hw1]
   exact ⟨Zck _ _ _ (by simp) 0,Zck _ _ _ (by simp) 1,Zcs _ _ _ (by simp) 1,Nat.zero_le _,hs⟩
  clear hw1
  have hO1:=hO.chg c0 hB (fun _ _=>id)
  have key:=ZZ186 (k:=0) (B:=B) (g:=Zds.id) (cap:=#[.pointer (some ⟨w.heap.size+1,0,none⟩)]) (G:=fun i=>i=w.heap.size+1∨w.heap.size+2<i) (I:=fun pre w'=>Out (w.heap.size+1) (w.heap.size+2) pre w'∧w.heap.size+2<w'.heap.size)
   (fun pre wa wb ⟨⟨v,h1,h2,h3⟩,h4⟩ hc=>⟨⟨v,hc.at h1 (by simp),(hc.frozen (p:=⟨w.heap.size+1,0,none⟩) (by simp;omega) (by simp)).trans h2,Zhq h3 hc (fun i hi e=>by omega)⟩,by have:=hc.size;omega⟩)
   (by omega) (fun i hi e=>by omega)
   (fun pre x wa ⟨h1,h2⟩ hpre=>(ZZ51 (by omega) h1 (by
    have:=hpre.length_le
    have:=Zym s 0 (Nat.zero_le _)
    simp at *
    omega) h2).mono fun v w' ⟨hv,ho,hc⟩=>⟨hv,⟨ho,by have:=hc.size;omega⟩,hc⟩)
   hsc hO1 (by omega) ⟨ho,by omega⟩
  refine Zf key ?_
  rintro _ w3 ⟨rfl,⟨⟨sl,ho1,ho2,ho3⟩,_⟩,hc3⟩
  rw[←hws]at ho3 ⊢
  have hm3:=hm.chg hc3 (by omega)
  have hfin:∀{w4},Chg (·=w.heap.size) w3 w4→Chg (fun _=>False) w w4:=fun h4=>
   (c0.trans' hc3 (fun i hi e=>by omega)).trans' h4 (fun i hi e=>by omega)
  cases hb:(Zah s).2 with
  | none=>
   unfold badV
   simp[go_sem,ho1,hm3.c0,hm3.c1,hm3.c2,hm3.f0,hm3.f1,hm3.f2,World.cell?_setCell_other]
   have hc5:=((((Chg.refl (·=w.heap.size) w3).setCell (p:=⟨w.heap.size,0,none⟩) (Or.inl rfl) (.int .i64 0)).setCell (p:=⟨w.heap.size,1,none⟩) (Or.inl rfl) (.int .i64 0)).setCell (p:=⟨w.heap.size,2,none⟩) (Or.inl rfl) (.slice none 0 0))
   refine hR _ _ ⟨?_,hfin hc5⟩
   unfold Zo3
   rw[hb]
   exact ⟨sl,rfl,Zlv (Zhq ho3 hc5 (fun i hi e=>by omega)) (by omega)⟩
  | some k=>
   unfold badV
   simp[go_sem,hm3.c0,hm3.c1,hm3.c2,hm3.f0,hm3.f1,hm3.f2,World.cell?_setCell_other]
   have hc5:=((((Chg.refl (·=w.heap.size) w3).setCell (p:=⟨w.heap.size,0,none⟩) (Or.inl rfl) (.int .i64 10)).setCell (p:=⟨w.heap.size,1,none⟩) (Or.inl rfl) (.int .i64 k)).setCell (p:=⟨w.heap.size,2,none⟩) (Or.inl rfl) (.slice none 0 0))
   refine hR _ _ ⟨?_,hfin hc5⟩
   unfold Zo3
   rw[hb]
   rfl
end Go.Proofs.YtckbgeedlobfaaaGreatDoor
namespace Go.Proofs.YtckbgeedlobfaaaGreatDoor
open Go.Px Go.RowKit
theorem Zqw:Tryz.prog.underlying 24=some (.slice 3):=Tryz.underlying24
theorem uStrs:Tryz.prog.underlying 23=some (.slice 9):=Tryz.underlying23
theorem ZZ166:Tryz.prog.underlying 22=some (.slice 64):=Tryz.underlying22
theorem ZZ180:Tryz.prog.underlying 25=some (.slice 50):=Tryz.underlying25
theorem iInt:(Tryz.prog.info? 3).map (fun i=>(i.zero,i.size,i.bytes))=some (some (.int .i64 0),1,8):=by kernel_rfl
theorem iStr:(Tryz.prog.info? 9).map (fun i=>(i.zero,i.size,i.bytes))=some (some (.string ⟨#[]⟩),1,16):=by kernel_rfl
theorem iTerm:(Tryz.prog.info? 64).map (fun i=>(i.zero,i.size,i.bytes))=some (some (.agg #[.string ⟨#[]⟩,.int .i64 0]),2,24):=by kernel_rfl
theorem iProd:(Tryz.prog.info? 50).map (fun i=>(i.zero,i.size,i.bytes))=some (some (.agg #[.int .i64 0,.slice none 0 0,.int .i64 0]),3,40):=by kernel_rfl
theorem mStr:Zm7 Tryz.prog kStr 98 9 3 where
 tm:=Tryz.underlying98
 te:=Tryz.underlying3
 keyed:=Maps.string_keyed Tryz.underlying9
 key a ha:=WideMaps.keyOf_string_mk Tryz.underlying9 ha
 zero w:=by simp[go_sem]
theorem mInt:Zm7 Tryz.prog kInt 116 3 3 where
 tm:=Tryz.underlying116
 te:=Tryz.underlying3
 keyed:=Maps.int_keyed Tryz.underlying3
 key a ha:=Maps.keyOf_int_mk Tryz.underlying3 (by
  have hm:IntKind.i64.min = -9223372036854775808:=by decide
  obtain ⟨h1,h2⟩:=ha
  simp[Lit.wf,hm]
  omega)
 zero w:=by simp[go_sem]
theorem mkStr (w:World):(Instr.makeMap 98 none).run Tryz.prog w = .ok (.map (some w.heap.size)) (w.alloc (.map #[] 0)):=by
 simp[Instr.makeMap,run_underlying Tryz.underlying98,go_sem]
theorem mkInt (w:World):(Instr.makeMap 116 none).run Tryz.prog w = .ok (.map (some w.heap.size)) (w.alloc (.map #[] 0)):=by
 simp[Instr.makeMap,run_underlying Tryz.underlying116,go_sem]
theorem ZZ325 (s:ByteArray)(x:Int)(w:World):(Instr.build 64 #[(0,.string s),(1,.int .i64 x)]).run Tryz.prog w = .ok (.agg #[.string s,.int .i64 x]) w:=by simp[go_sem]
theorem ZZ317 (s:ByteArray)(w:World):(Instr.build 64 #[(0,.string s)]).run Tryz.prog w = .ok (.agg #[.string s,.int .i64 0]) w:=by simp[go_sem]
theorem ZZ201 (x y:Int)(w:World):(Instr.build 50 #[(0,.int .i64 x),(2,.int .i64 y)]).run Tryz.prog w = .ok (.agg #[.int .i64 x,.slice none 0 0,.int .i64 y]) w:=by simp[go_sem]
theorem ZZ267 (a b:Option Addr)(n c m d:Nat)(w:World):(Instr.build 27 #[(0,.slice a n c),(2,.slice b m d)]).run Tryz.prog w = .ok (.agg #[.slice a n c,.slice none 0 0,.slice b m d,.int .i64 0,.slice none 0 0]) w:=by simp[go_sem]
theorem ZZ295 (x y:Int)(w:World):(Instr.buildSlice 24 2 #[(0,.int .i64 x),(1,.int .i64 y)]).run Tryz.prog w = .ok (.slice (some ⟨w.heap.size,0,none⟩) 2 2) (w.alloc (.cells #[.int .i64 x,.int .i64 y] 3)):=by simp[go_sem]
theorem ZZ223 (x y:Int)(w:World):(Instr.buildSlice 55 2 #[(0,.int .u8 x),(1,.int .u8 y)]).run Tryz.prog w = .ok (.slice (some ⟨w.heap.size,0,none⟩) 2 2) (w.alloc (.cells #[.int .u8 x,.int .u8 y] 5)):=by simp[go_sem]
attribute [go_sem ↓] ZZ223 ZZ295 ZZ325 ZZ317 ZZ201 ZZ267
end Go.Proofs.YtckbgeedlobfaaaGreatDoor
