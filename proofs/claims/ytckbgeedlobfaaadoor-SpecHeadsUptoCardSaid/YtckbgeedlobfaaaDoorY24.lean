/-
  Texts of this claim: Rn2, Rn3, Cp1, Mk4, Mk5, Mk6, Mk7.
-/
import Derived.Test.YtckbgeedlobfaaaDoorY23
import Derived.Test.YtckbgeedlobfaaaDoorY03
import Derived.Test.YtckbgeedlobfaaaDoorY17
import Derived.Test.YtckbgeedlobfaaaDoorY18
import Derived.Test.YtckbgeedlobfaaaDoorY21
import Derived.Test.YtckbgeedlobfaaaDoorY14
set_option maxHeartbeats 1000000
set_option linter.unusedSimpArgs false
set_option linter.unusedVariables false
set_option maxRecDepth 100000
/-
  The document's text: number.
-/
namespace Go.Px.Spec
open Go.Px Go.Px.Scan
/-- The terminals of a row, as they come. -/
def rowT (ls:List ByteArray) (r:RowS):List ByteArray:=(r.words.filter fun w => !isNonX ls w).map (·.2.1)++(if r.said=1 then [r.by_] else [])
def numF (ls:List ByteArray) (ts:List (ByteArray×Int)) (r:RowS):List (ByteArray×Int):=(rowT ls r).foldl (fun ts t=>putT ts t 0) ts
def numX (x:Rx):Rx:={x with ts:=x.rows.foldl (numF x.ls) x.ts }
end Go.Px.Spec
namespace Go.Proofs.YtckbgeedlobfaaaDoor
open Go.Px Go.Px.Scan Go.Px.Spec Go.RowKit
attribute [-go_sem] Builtin.append_

/-- Bounds of a text that was read. -/
structure NB (x:Rx):Prop where
 ts:x.ts.length≤10001
 lv:x.lv.length≤10000
 rows:x.rows.length≤10000
 ls:x.ls.length≤10000
 wl:∀r∈x.rows,r.words.length≤10000
 sum:(x.rows.map fun r=>r.words.length+1).sum≤20000

section
variable {G:Nat→Prop} {W w w1:World} {R:EP} {C3 C13:VP} {tb q:Nat} {x:Rx} {D:TD} {L:List Ch} {us:List Value} {c0:Ch}

end
end Go.Proofs.YtckbgeedlobfaaaDoor

/-
  The document's text: grammar.
-/
namespace Go.Px.Spec
open Go.Px Go.Px.Scan
/-- A terminal's level by its place. -/
def lvAt (ts:List (ByteArray×Int)) (i:Int):Int:=((ts[i.toNat]?).map (·.2)).getD 0
def lev1 (ts:List (ByteArray×Int)) (a:Int) (s:Int):Int:=if s<ts.length then lvAt ts s else a
/-- A row's level. -/
def rlev (ts:List (ByteArray×Int)) (ls:List ByteArray) (r:RowS):Int :=
 if r.said=2 then 0 else if r.said=1 then lvAt ts (posI ts r.by_) else (r.words.map (symX ts ls)).foldl (lev1 ts) 0
def gPr (x:Rx) (r:RowS):Int×List Int×Int:=(nonX x.ts.length x.ls r.left,r.words.map (symX x.ts x.ls),rlev x.ts x.ls r)
def gOf (x:Rx):Gr:=⟨x.ts,x.ls,x.lv,if x.st=noT then x.ts.length else nonX x.ts.length x.ls x.st,x.rows.map (gPr x)⟩
/-- All of it came. -/
structure GK (x:Rx):Prop where
 word:∀r∈x.rows,∀w∈r.words,0≤symX x.ts x.ls w
 by_:∀r∈x.rows,r.said=1→0≤posI x.ts r.by_
theorem posI_lt {ts:List (ByteArray×Int)} {t:ByteArray}:posI ts t<ts.length:=by unfold posI;split <;> omega
end Go.Px.Spec
namespace Go.Proofs.YtckbgeedlobfaaaDoor
open Go.Px Go.Px.Scan Go.Px.Spec Go.RowKit
attribute [-go_sem] Builtin.append_

section
variable {G:Nat→Prop} {W w w1:World} {R:EP} {C6:VP} {tb q pb gb rb:Nat} {x:Rx} {D:TD} {L:List Ch} {us vs:List Value}

theorem bPr0 (x:Int) (w:World):(Instr.build 37 #[(0,.int .i64 x)]).run Tryd.prog w = .ok (.agg #[.int .i64 x,.slice none 0 0,.int .i64 0]) w:=by simp [go_sem]
attribute [go_sem ↓] bPr0

end
end Go.Proofs.YtckbgeedlobfaaaDoor

/-
  The document's Copy of a grammar: it reads as the grammar does.
-/
namespace Go.Px
open Go.RowKit
end Go.Px
namespace Go.Proofs.YtckbgeedlobfaaaDoor
open Go.Px Go.Px.Scan Go.RowKit
attribute [-go_sem] Builtin.append_

theorem bProdC (x y:Int) (w:World):(Instr.build 37 #[(0,.int .i64 x),(2,.int .i64 y)]).run Tryd.prog w = .ok (.agg #[.int .i64 x,.slice none 0 0,.int .i64 y]) w:=by simp [go_sem]
theorem bGramC (x:Int) (w:World):(Instr.build 28 #[(3,.int .i64 x)]).run Tryd.prog w = .ok (.agg #[.slice none 0 0,.slice none 0 0,.slice none 0 0,.int .i64 x,.slice none 0 0]) w:=by simp [go_sem]
attribute [go_sem ↓] bProdC bGramC

structure GFit (g:Gr):Prop where
 terms:g.terms.length*24≤maxBytes
 nons:g.nons.length*16≤maxBytes
 levels:g.levels.length*8≤maxBytes
 prods:g.prods.length*40≤maxBytes
 right:∀p∈g.prods,p.2.1.length*8≤maxBytes

end Go.Proofs.YtckbgeedlobfaaaDoor

/-
  The maker: rows.
-/
namespace Go.Proofs.YtckbgeedlobfaaaDoor
open Go.Px Go.Px.Scan Go.Px.Spec Go.RowKit
attribute [-go_sem] Builtin.append_ spec_maker_all.b4 spec_maker_all.b4_1 spec_maker_all.b4_2 spec_maker_all.b10 spec_maker_all.b15 spec_maker_all.b15_1 spec_maker_all.b14 spec_maker_all.b14_1 spec_maker_all.b14_2 spec_maker_all.b14_3 spec_maker_all.b14_4 spec_maker_all.b14_5 spec_maker_all.b14_6 spec_maker_all.b14_7 spec_maker_all.b14_8 spec_maker_all.b19 spec_maker_all.b19_1 spec_maker_all.b19_2 spec_maker_all.b16 spec_maker_all.b12 spec_maker_all.b12_1

section
variable {G:Nat→Prop} {W w:World} {R:EP} {C7:VP} {bm bb b p n q:Nat} {S:BS} {lv:Int→Int} {A Al:Option Addr} {c cl:Nat} {ws:List Wd} {e:Int} {i:Nat} {hs:List (Nat×List ByteArray)} {st:ByteArray} {ls:List ByteArray} {rs:List RowS} {D:RD} {l:List Int} {x84:Value} {bx:Ch}

theorem row_none {k:Nat} {u0 u1 u2:Value} {h:Int} {said:Nat} (hh:inI64 h)
  (s:St G W w (mkL bm bb b S (.map (some p)) n lv A c ws e i hs st ls rs D++[boxC q 112 [u0,u1,u2,.bool (decide (said=2))]]))
  (hK:∀w',St G W w' (mkL bm bb b (if said=2 then (gradeA S 0 [h]).2 else S) (.map (some p)) n lv A c ws e i hs st ls rs D)→spec_maker_all.b10 R C7 x84 w') :
  spec_maker_all.b15 R C7 (.pointer (some ⟨bm,0,none⟩)) (.pointer (some ⟨q,0,none⟩)) (.int .i64 h) x84 w:=by
 have yq:=(s.box 11 rfl).1
 have ym:=(s.box 0 rfl).1
 simp [boxAt] at yq ym
 unfold spec_maker_all.b15
 simp -dsimp [go_sem,yq]
 refine SPL_intro (fun h1=>?_) (fun h1=>?_) <;> simp at h1
 ·have s1:=s.lit 3 1 1 #[.int .i64 h] (by simp [maxLen]) rfl
  unfold spec_maker_all.b15_1
  simp -dsimp [go_sem,ym]
  refine CALL_Grade s1 1 rfl (by simp [inI64]) (Apart.row (j:=12) (l:=[h]) rfl (by omega) fun x hx=>by rw [List.mem_singleton.1 hx];exact hh) fun w2 s2=>?_
  refine hK _ ?_
  rw [if_pos h1]
  exact s2.take 11
 ·refine hK _ ?_
  rw [if_neg h1]
  exact s.take 11

theorem row_prec {u0 u1 u3:Value} {h:Int} {t:ByteArray} (hh:inI64 h) (ht:t.size≤maxLen) (hlv:∀t,0≤lv t∧lv t≤65)
  (s:St G W w (mkL bm bb b S (.map (some p)) n lv A c ws e i hs st ls rs D++[boxC q 112 [u0,u1,.string t,u3]]))
  (hK:∀S' w',precF lv (h,S) t = .ok S'→St G W w' (mkL bm bb b S' (.map (some p)) n lv A c ws e i hs st ls rs D++[boxC q 112 [u0,u1,.string t,u3]])→spec_maker_all.b15 R C7 (.pointer (some ⟨bm,0,none⟩)) (.pointer (some ⟨q,0,none⟩)) (.int .i64 h) x84 w')
  (hX:∀e,precF lv (h,S) t = .error e→∀w',Chg G W w'→R (.panicked (errP e)) w') :
  spec_maker_all.b14_7 R C7 (.pointer (some ⟨bm,0,none⟩)) (.map (some p)) (.pointer (some ⟨q,0,none⟩)) x84 (.int .i64 h) w:=by
 have yq:=(s.box 11 rfl).1
 have ym:=(s.box 0 rfl).1
 simp [boxAt] at yq ym
 unfold spec_maker_all.b14_7
 simp -dsimp [go_sem,yq]
 refine SPL_intro (fun h1=>?_) (fun h1=>?_) <;> simp at h1
 ·have hne:t≠noT:=fun e=>h1 (noT_list.2 e)
  have hp:precF lv (h,S) t=(do let r ←en (termA S t);pure (gradeA r.2 (lv r.1) [h]).2):=by unfold precF;rw [if_neg hne]
  have ha:∀x∈[h],inI64 x:=fun x hx=>by rw [List.mem_singleton.1 hx];exact hh
  have sd:=s.old (Chg.refl noB w).drew
  obtain ⟨ok,_⟩:=bld_ok s 1 rfl
  have hr:=termA_range ok t
    -- behind the error's test: the level is looked up, the production is graded
  have fin:∀w1 cc g,(termA S t).2.1=0→St G W w1 (mkL bm bb b (termA S t).2.2 (.map (some p)) n lv A c ws e i hs st ls rs D++[boxC q 112 [u0,u1,.string t,u3],rowC 3 1 (some ⟨g,0,none⟩) 1 cc [.int .i64 h]]) →
    CALL Tryd.prog (pan R) gram_Builder_Grade.id #[.pointer (some ⟨bb,0,none⟩),.int .i64 (lv (termA S t).1),.slice (some ⟨g,0,none⟩) 1 cc] w1 fun _ w2=>spec_maker_all.b15 R C7 (.pointer (some ⟨bm,0,none⟩)) (.pointer (some ⟨q,0,none⟩)) (.int .i64 h) x84 w2:=fun w1 cc g he s1=>by
   refine CALL_Grade s1 1 rfl (by have:=hlv (termA S t).1;unfold inI64;omega) (Apart.row (j:=12) (l:=[h]) rfl (by omega) ha) fun w2 s2=>?_
   refine hK _ _ ?_ (s2.take 12)
   rw [hp,en_yes he];rfl
  have fX:∀w1,(termA S t).2.1≠0→Chg G W w1→R (.panicked (errP (termA S t).2.1)) w1:=fun w1 he hc=>hX _ (by rw [hp,en_no he];rfl) _ hc
  unfold spec_maker_all.b14_6
  simp -dsimp [go_sem,yq,ym]
  refine ⟨?_,?_⟩
  ·refine CALL_Term sd 1 rfl ht fun w2 s2=>?_
   have ym2:=(s2.box 0 rfl).1
   simp [boxAt] at ym2
   have lk:(Instr.lookup 104 (.map (some p)) (.int .i64 (termA S t).1) false).run Tryd.prog w2 = .ok (.int .i64 (lv (termA S t).1)) w2:=s2.mapGet mInt 2 rfl (termA S t).1 (show inI64 _ by unfold inI64;omega)
   unfold spec_maker_all.b14_3
   have s3:=s2.lit 3 1 1 #[.int .i64 h] (by simp [maxLen]) rfl
   obtain ⟨w3,hw3⟩:∃w3,w2.alloc (.cells #[.int .i64 h] 3)=w3:=⟨_,rfl⟩
   rw [hw3] at s3
   have ym3:=(s3.box 0 rfl).1.1
   have lk3:(Instr.lookup 104 (.map (some p)) (.int .i64 (termA S t).1) false).run Tryd.prog w3 = .ok (.int .i64 (lv (termA S t).1)) w3:=s3.mapGet mInt 2 rfl (termA S t).1 (show inI64 _ by unfold inI64;omega)
   simp -dsimp [go_sem,ym2,hw3,ym3]
   refine ⟨?_,?_⟩
   ·refine CALL_enough (fun he=>?_) (fun he=>fX _ he s2.chg)
    unfold spec_maker_all.b14_1
    simp -dsimp [go_sem,ym2,lk,hw3,ym3,lk3]
    exact fin _ _ _ he s3
   ·refine CALL_enough (fun he=>?_) (fun he=>fX _ he s3.chg)
    unfold spec_maker_all.b14_2
    simp -dsimp [go_sem,ym3,lk3]
    exact fin _ _ _ he s3
  ·have s3:=s.lit 3 1 1 #[.int .i64 h] (by simp [maxLen]) rfl
   obtain ⟨w3,hw3⟩:∃w3,w.alloc (.cells #[.int .i64 h] 3)=w3:=⟨_,rfl⟩
   rw [hw3] at s3 ⊢
   have ym3:=(s3.box 0 rfl).1.1
   have yq3:w3.cell? ⟨q,2,none⟩=some (.string t):=(s3.box 11 rfl).1.2.2.1
   simp -dsimp [go_sem,ym3,yq3]
   refine CALL_Term (s3.old (Chg.refl noB w3).drew) 1 rfl ht fun w4 s4=>?_
   have ym4:=(s4.box 0 rfl).1.1
   have lk4:(Instr.lookup 104 (.map (some p)) (.int .i64 (termA S t).1) false).run Tryd.prog w4 = .ok (.int .i64 (lv (termA S t).1)) w4:=s4.mapGet mInt 2 rfl (termA S t).1 (show inI64 _ by unfold inI64;omega)
   unfold spec_maker_all.b14_5
   simp -dsimp [go_sem,ym4]
   refine CALL_enough (fun he=>?_) (fun he=>fX _ he s4.chg)
   unfold spec_maker_all.b14_4
   simp -dsimp [go_sem,ym4,lk4]
   exact fin _ _ _ he s4
 ·have hne:t=noT:=noT_list.1 h1
  exact hK S _ (by unfold precF;rw [if_pos hne];rfl) s

theorem symM_range {S S':BS} {x:Wd} {h:Int} (ok:BSok S) (he:symM ls S x = .ok (h,S')) : -65≤h∧h≤65:=by
 unfold symM at he
 have h1:=termA_range ok x.2.1
 have h2:=nonA_range ok x.2.1
 split at he
 ·have:=(en_ok he).2;injection this with e1 _;omega
 ·have:=(en_ok he).2;injection this with e1 _;omega

/-- The words of a row; the rule. -/
theorem row_words {k:Nat} {a:Option Addr} {ca:Nat} {left:Int} (hk:k<rs.length) (mb:MB hs rs st) (hlv:∀t,0≤lv t∧lv t≤65) (hv:D.us[k]?=some (.slice a rs[k].words.length ca)) (hleft:inI64 left)
  (s:St G W w (mkL bm bb b S (.map (some p)) n lv A c ws e i hs st ls rs D++[boxC q 112 [.string rs[k].left,.slice a rs[k].words.length ca,.string rs[k].by_,.bool (decide (rs[k].said=2))]]))
  {T:Except Int BS} (hT:T=(do let z ←rs[k].words.foldlM (symF ls) ([],S);let n ←en (ruleA z.2 left z.1);endF lv rs[k].by_ rs[k].said n))
  (hK:∀S' w',T = .ok S'→St G W w' (mkL bm bb b S' (.map (some p)) n lv A c ws e i hs st ls rs D)→spec_maker_all.b10 R C7 x84 w')
  (hX:∀e,T = .error e→∀w',Chg G W w'→R (.panicked (errP e)) w') :
  spec_maker_all.b16 R C7 (.pointer (some ⟨bm,0,none⟩)) (.map (some p)) (.pointer (some ⟨q,0,none⟩)) (.int .i64 left) (.slice none 0 0) x84 w:=by
 have hwl:=mb.wl _ (List.getElem_mem hk)
 have yq:=(s.box 11 rfl).1
 simp [boxAt] at yq
 unfold spec_maker_all.b16
 simp -dsimp [go_sem,yq]
 refine spec_maker_all.l18_intro _ _ _ _ _ _ _ _ _ _ _ _ (fun x y w'=>∃(j:Nat) (Al:Option Addr) (cl:Nat) (l:List Int) (S1:BS),y = .int .i64 j∧x = .slice Al l.length cl∧j≤rs[k].words.length∧l.length=j∧(∀h∈l,inI64 h) ∧
   T=(do let z ←(rs[k].words.drop j).foldlM (symF ls) (l,S1);let n ←en (ruleA z.2 left z.1);endF lv rs[k].by_ rs[k].said n) ∧
   St G W w' (mkL bm bb b S1 (.map (some p)) n lv A c ws e i hs st ls rs D++[boxC q 112 [.string rs[k].left,.slice a rs[k].words.length ca,.string rs[k].by_,.bool (decide (rs[k].said=2))],rowC 3 1 Al l.length cl (l.map (Value.int .i64 ·))])) (fun _ y _=>rs[k].words.length-iv y)
   ⟨0,none,0,[],S,rfl,rfl,by omega,rfl,by simp,hT,by have:=s.nilRow 3 1;simpa [mkL] using this⟩ ?_
 rintro _ _ w1 ⟨j,Al,cl,l,S1,rfl,rfl,hj,hlj,hl,hg,s1⟩ C18 hC
 unfold spec_maker_all.b19
 simp -dsimp [go_sem]
 refine SPL_intro (fun h1=>?_) (fun h1=>?_) <;> simp at h1
 ·obtain ⟨g,rfl,c0,c1,c2⟩:=wx_at s1 10 rfl hk hv h1
  have wj:IntKind.i64.wrap ((j:Int)+1)=(j:Int)+1:=IntWalk.i64_in _ (by omega)
  obtain ⟨ok,_⟩:=bld_ok s1 1 rfl
  rw [List.drop_eq_getElem_cons h1,List.foldlM_cons] at hg
  have hx:=mb.wx _ (List.getElem_mem hk) _ (List.getElem_mem h1)
  generalize hxe:rs[k].words[j]=x at c0 c1 c2 hg hx
  have hc2:Chg noB w1 (w1.alloc (.cells #[.int .i64 x.1,.string x.2.1,.int .i64 x.2.2] 91)):=(Chg.refl noB w1).alloc _
  have ht:=new3 (w:=w1) x
  unfold spec_maker_all.b19_2
  simp -dsimp [go_sem,h1,Nat.not_le.2 h1,c0,c1,c2]
  generalize w1.alloc (.cells #[.int .i64 x.1,.string x.2.1,.int .i64 x.2.2] 91)=w2 at hc2 ht ⊢
  generalize w1.heap.size=q9 at ht ⊢
  have d0:=ht.c0
  have d1:=ht.c1
  have d2:=ht.c2
  have s2:=s1.old hc2
  refine CALL_ofE (symbol_ct (x:=x) s2 0 rfl 1 rfl 3 rfl 8 rfl hx) ?_
  rintro r w3 (⟨⟨hd,S2⟩,he,rfl,s3⟩ | ⟨e',he,rfl,hc⟩)
  ·have hr:=symM_range ok he
   have hg2:T=(do let z ←(rs[k].words.drop (j+1)).foldlM (symF ls) (l++[hd],S2);let n ←en (ruleA z.2 left z.1);endF lv rs[k].by_ rs[k].said n):=by rw [hg,symF,he];rfl
   show spec_maker_all.b19_1 R C18 (.slice Al l.length cl) (.int .i64 j) (.int .i64 hd) w3
   unfold spec_maker_all.b19_1
   simp -dsimp [go_sem]
   refine s3.append1 12 rfl uInts iInt rfl (by omega) (news:=[.int .i64 hd]) rfl (by simp [Value.oneCell']) (by unfold maxLen;omega) (by unfold maxBytes;omega) ?_
   intro g' cap w4 s4
   simp -dsimp [go_sem,wj]
   refine hC _ _ _ ⟨j+1,some ⟨g',0,none⟩,cap,l++[hd],S2,by simp,by simp,h1,by simp [hlj],fun h hh=>?_,hg2,?_⟩ (by simp [iv];omega)
   ·rcases List.mem_append.1 hh with hh | hh
    ·exact hl h hh
    ·rw [List.mem_singleton.1 hh];unfold inI64;omega
   ·simpa [mkL,rdL] using s4
  ·exact hX e' (by rw [hg,symF,he];rfl) _ hc
 ·have hja:j=rs[k].words.length:=by omega
  rw [hja,List.drop_length] at hg
  have hg':T=(do let n ←en (ruleA S1 left l);endF lv rs[k].by_ rs[k].said n):=hg
  have ym:=(s1.box 0 rfl).1
  simp [boxAt] at ym
  obtain ⟨ok,_⟩:=bld_ok s1 1 rfl
  have hr:=ruleA_range ok left l
  unfold spec_maker_all.b14
  simp -dsimp [go_sem,ym]
  refine CALL_Rule s1 1 rfl hleft (ints_own s1 12 rfl hl) (by unfold maxBytes;omega) fun w2 s2=>?_
  unfold spec_maker_all.b14_8
  simp -dsimp [go_sem]
  refine CALL_enough (fun h2=>?_) (fun h2=>hX _ (by rw [hg',en_no h2];rfl) _ s2.chg)
  rw [en_yes h2] at hg'
  have s3:=s2.take 12
  refine row_prec (S:=(ruleA S1 left l).2.2) (by unfold inI64;omega) (mb.by_ _ (List.getElem_mem hk)) hlv s3 (fun S' w4 he s4=>?_) (fun e' he w4 hc=>hX e' (by rw [hg'];show endF lv _ _ _=_;unfold endF;rw [he];rfl) w4 hc)
  refine row_none (k:=k) (by unfold inI64;omega) s4 fun w5 s5=>hK _ w5 ?_ s5
  rw [hg'];show endF lv _ _ _=_;unfold endF;rw [he];rfl
end
end Go.Proofs.YtckbgeedlobfaaaDoor

/-
  The maker: all.
-/
namespace Go.Proofs.YtckbgeedlobfaaaDoor
open Go.Px Go.Px.Scan Go.Px.Spec Go.RowKit
attribute [-go_sem] Builtin.append_ spec_maker_all.b4 spec_maker_all.b4_1 spec_maker_all.b4_2 spec_maker_all.b10 spec_maker_all.b16 spec_maker_all.b12 spec_maker_all.b12_1 spec_maker_all.b5 spec_maker_all.b20

section
variable {G:Nat→Prop} {W w:World} {R:EP} {C7:VP} {bm bb b p n q:Nat} {S:BS} {lv:Int→Int} {A Al:Option Addr} {c cl:Nat} {ws:List Wd} {e:Int} {i:Nat} {hs:List (Nat×List ByteArray)} {st:ByteArray} {ls:List ByteArray} {rs:List RowS} {D:RD} {l:List Int} {x84:Value} {bx:Ch}

theorem start_run {T:Except Int BS} (mb:MB hs rs st) (hT:T=startF st S)
  (s:St G W w (mkL bm bb b S (.map (some p)) n lv A c ws e i hs st ls rs D))
  (hK:∀S' w',T = .ok S'→St G W w' (mkL bm bb b S' (.map (some p)) n lv A c ws e i hs st ls rs D)→R (.returned (.tuple #[])) w')
  (hX:∀e,T = .error e→∀w',Chg G W w'→R (.panicked (errP e)) w') :
  spec_maker_all.b4 R (.pointer (some ⟨bm,0,none⟩)) w:=by
 have ym:=(s.box 0 rfl).1
 have yr:=(s.box 3 rfl).1
 simp [boxAt,rdBox] at ym yr
 unfold spec_maker_all.b4
 simp -dsimp [go_sem,ym,yr]
 refine SPL_intro (fun h1=>?_) (fun h1=>?_) <;> simp at h1
 ·have hne:st≠noT:=fun e=>h1 (noT_list.2 e)
  have hp:T=(do let h ←en (nonA S st);pure (if isN h.2 h.1 then {h.2 with start:=h.1 } else h.2)):=by rw [hT];unfold startF;rw [if_neg hne]
  obtain ⟨ok,_⟩:=bld_ok s 1 rfl
  have hr:=nonA_range ok st
  unfold spec_maker_all.b4_2
  simp -dsimp [go_sem,ym,yr]
  refine CALL_Non (s.old (Chg.refl noB w).drew) 1 rfl mb.sx fun w2 s2=>?_
  have ym2:=(s2.box 0 rfl).1.1
  unfold spec_maker_all.b4_1
  simp -dsimp [go_sem,ym2]
  refine CALL_enough (fun h2=>?_) (fun h2=>hX _ (by rw [hp,en_no h2];rfl) _ s2.chg)
  rw [en_yes h2] at hp
  simp -dsimp [go_sem,ym2]
  refine CALL_Start s2 1 rfl (by unfold inI64;omega) fun w3 s3=>?_
  exact hK _ _ hp s3
 ·have hne:st=noT:=noT_list.1 h1
  exact hK S _ (by rw [hT];unfold startF;rw [if_pos hne];rfl) s

theorem rows_run {T:Except Int BS} (mb:MB hs rs st) (hT:T=rs.foldlM (rowF ls lv) S >>= startF st) (hlv:∀t,0≤lv t∧lv t≤65)
  (s:St G W w (mkL bm bb b S (.map (some p)) n lv A c ws e i hs st ls rs D))
  (hK:∀S' w',T = .ok S'→St G W w' (mkL bm bb b S' (.map (some p)) n lv A c ws e i hs st ls rs D)→R (.returned (.tuple #[])) w')
  (hX:∀e,T = .error e→∀w',Chg G W w'→R (.panicked (errP e)) w') :
  spec_maker_all.b5 R (.pointer (some ⟨bm,0,none⟩)) (.map (some p)) w:=by
 have hrl:=mb.rl
 have ym:=(s.box 0 rfl).1
 have yr:=(s.box 3 rfl).1
 simp [boxAt,rdBox] at ym yr
 unfold spec_maker_all.b5
 simp -dsimp [go_sem,ym,yr]
 refine spec_maker_all.l7_intro _ _ _ _ _ _ _ (fun y w'=>∃(k:Nat) (S':BS),y = .int .i64 k∧k≤rs.length∧T=(rs.drop k).foldlM (rowF ls lv) S' >>= startF st ∧
   St G W w' (mkL bm bb b S' (.map (some p)) n lv A c ws e i hs st ls rs D)) (fun y _=>rs.length-iv y)
   ⟨0,S,rfl,by omega,hT,s⟩ ?_
 rintro _ w1 ⟨k,S',rfl,hk,hg,s1⟩ C7 hC
 unfold spec_maker_all.b8
 simp -dsimp [go_sem]
 refine SPL_intro (fun h1=>?_) (fun h1=>?_) <;> simp at h1
 ·obtain ⟨g,a,ca,hah,hv,c0,c1,c2,c3⟩:=rw_at s1 9 rfl 10 rfl h1
  rw [List.drop_eq_getElem_cons h1,List.foldlM_cons] at hg
  have wk:IntKind.i64.wrap ((k:Int)+1)=(k:Int)+1:=IntWalk.i64_in _ (by omega)
  have s2:=s1.alloc #[.string rs[k].left,.slice a rs[k].words.length ca,.string rs[k].by_,.bool (decide (rs[k].said=2))] 112
  have ym2:=(s2.box 0 rfl).1.1
  have yq2:=(s2.box 11 rfl).1.1
  rw [hah]
  unfold spec_maker_all.b12
  simp -dsimp [go_sem,h1,Nat.not_le.2 h1,c0,c1,c2,c3]
  generalize w1.alloc (.cells #[.string rs[k].left,.slice a rs[k].words.length ca,.string rs[k].by_,.bool (decide (rs[k].said=2))] 112)=w2 at s2 ym2 yq2 ⊢
  generalize w1.heap.size=q9 at s2 yq2 ⊢
  simp -dsimp [go_sem,ym2,yq2]
  obtain ⟨ok,_⟩:=bld_ok s2 1 rfl
  have hr:=nonA_range ok rs[k].left
  refine CALL_Non (s2.old (Chg.refl noB w2).drew) 1 rfl (mb.left _ (List.getElem_mem h1)) fun w3 s3=>?_
  unfold spec_maker_all.b12_1
  simp -dsimp [go_sem]
  refine CALL_enough (fun h2=>?_) (fun h2=>hX _ (by rw [hg,rowF,en_no h2];rfl) _ s3.chg)
  refine row_words (S:=(nonA S' rs[k].left).2.2) (T:=rowF ls lv S' rs[k]) h1 mb hlv hv (by unfold inI64;omega) s3 (by rw [rowF,en_yes h2];rfl) (fun S2 w4 he s4=>?_) (fun e' he w4 hc=>hX e' (by rw [hg,he];rfl) w4 hc)
  unfold spec_maker_all.b10
  simp -dsimp [go_sem,wk]
  exact hC _ _ ⟨k+1,S2,by simp,h1,by rw [hg,he];rfl,s4⟩ (by simp [iv];omega)
 ·have hka:k=rs.length:=by omega
  rw [hka,List.drop_length] at hg
  exact start_run mb hg s1 hK hX

theorem all_ct (mb:MB hs rs st) (hD:Rb ws i hs ls rs D)
  (s:St G W w ([boxC bm 64 [.pointer (some ⟨bb,0,none⟩),.pointer (some ⟨b,0,none⟩)],bldC bb S0]++rdL b A c ws e i hs st ls rs D)) :
  CtE Tryd.prog spec_maker_all.id #[.pointer (some ⟨bm,0,none⟩)] w (MEnd G W (allM hs ls rs st) (fun _ => .tuple #[]) fun S' w'=>St G W w' [boxC bm 64 [.pointer (some ⟨bb,0,none⟩),.pointer (some ⟨b,0,none⟩)],bldC bb S']):=by
 refine CtE.intro spec_maker_all.enters fun R hR=>spec_maker_all.calls R _ w ?_
 unfold spec_maker_all.run
 have s1:=(s.map Tryd.prog kInt 3 3).pick [0,1,10,2,3,4,5,6,7,8,9] (L':=mkL bm bb b S0 (.map (some w.heap.size)) 0 (fun _=>0) A c ws e i hs st ls rs D) (by decide) rfl
 simp -dsimp [go_sem,mkInt]
 generalize w.alloc (.map #[] 0)=w1 at s1 ⊢
 generalize w.heap.size=p at s1 ⊢
 refine heads_run mb (T:=allM hs ls rs st) (rest:=fun a=>rs.foldlM (rowF ls a.1) a.2 >>= startF st) rfl (fun _=>rfl) rfl s1 (fun lv' S' w' n' hg hlv s2=>?_) (fun e' he w' hc=>hR _ _ (.inr ⟨e',he,rfl,hc⟩))
 exact rows_run mb hg hlv s2 (fun S2 w3 he s3=>hR _ _ (.inl ⟨S2,he,rfl,s3.take 2⟩)) (fun e' he w' hc=>hR _ _ (.inr ⟨e',he,rfl,hc⟩))
end
end Go.Proofs.YtckbgeedlobfaaaDoor

/-
  Read: its pieces.
-/
namespace Go.Proofs.YtckbgeedlobfaaaDoor
open Go.Px Go.Px.Scan Go.Px.Spec Go.RowKit
attribute [-go_sem] Builtin.append_

def gz:Gr:=⟨[],[],[],0,[]⟩
theorem GrNew.zero' {w w':World} (hc:Chg noB w w'):GrNew w w' (.agg zG.toArray) gz:=by
 refine ⟨none,0,none,0,none,0,none,0,[],rfl,?_,by simp [gz],by simp [gz],by simp [gz],by simp [gz,inI64],by simp [gz]⟩
 have h:=((((St.refl noB w).old hc).nilRow 39 2).nilRow 9 1).nilRow 3 1
 exact (h.nilRow 37 3).push (c:=rowsC 3 1 [] []) ⟨rfl,fun i v xs hv=>by simp at hv⟩

/-- What Read tells: a grammar, the code, the place. -/
noncomputable def readG (s:ByteArray):Gr×Int×Int :=
 if 0≤badS s then (gz,10,badS s)
 else match allM (goM m0 (wordsS s).1).1.heads (goM m0 (wordsS s).1).1.lefts (goM m0 (wordsS s).1).1.rows (goM m0 (wordsS s).1).1.start with
  | .error e=>(gz,e,0)
  | .ok S=>if toldB S=true then (gramOf S,0,0) else (gz,1,0)
theorem readG_bad {s:ByteArray} (h:0≤badS s):readG s=(gz,10,badS s):=if_pos h
theorem readG_err {s:ByteArray} {m:Mc} {x:Int} (h:¬0≤badS s) (hg:goM m0 (wordsS s).1=(m,[])) (hm:allM m.heads m.lefts m.rows m.start = .error x):readG s=(gz,x,0):=by
 unfold readG;rw [if_neg h,hg];simp only [hm]
theorem readG_ok {s:ByteArray} {m:Mc} {S:BS} (h:¬0≤badS s) (hg:goM m0 (wordsS s).1=(m,[])) (hm:allM m.heads m.lefts m.rows m.start = .ok S):readG s=if toldB S=true then (gramOf S,0,0) else (gz,1,0):=by
 unfold readG;rw [if_neg h,hg];simp only [hm]

/-- What Read hands back. -/
def RdAns (s:ByteArray) (w:World) (v:Value) (w':World):Prop :=
 ∃vg,v = .tuple #[vg,mishV (readG s).2.1 (readG s).2.2]∧GrNew w w' vg (readG s).1

section
variable {w w1:World} {R:EP} {q2 q3:Nat}
def zM:List Value:=[.int .i64 0,.int .i64 0,.slice none 0 0]

theorem rqA_run {s:ByteArray} (hR:∀w' q2 q3,St noB w w' [boxC q2 28 zG,boxC q3 31 zM]→R (.returned (.tuple #[.string s,.pointer (some ⟨q2,0,none⟩),.pointer (some ⟨q3,0,none⟩)])) w'):RqA.b1 R (.string s) w:=by
 unfold RqA.b1
 have s1:=(St.refl noB w).alloc zG.toArray 28
 have s2:=s1.alloc zM.toArray 31
 simp -dsimp [go_sem]
 simp [zG,zM] at s2
 exact hR _ _ _ s2

theorem bM2 (c a:Int) (w:World):(Instr.build 31 #[(0,.int .i64 c),(1,.int .i64 a)]).run Tryd.prog w = .ok (mishV c a) w:=by simp [go_sem,mishV]
theorem bM1 (c:Int) (w:World):(Instr.build 31 #[(0,.int .i64 c)]).run Tryd.prog w = .ok (mishV c 0) w:=by simp [go_sem,mishV]
theorem bG0 (w:World):(Instr.build 28 #[]).run Tryd.prog w = .ok (.agg zG.toArray) w:=by simp [go_sem,zG]
attribute [go_sem ↓] bM2 bM1 bG0

/-- The results, set. -/
theorem storeG {G:Nat→Prop} {W:World} {L:List Ch} {k:Nat} {g:List Value} {A1 A2 A3 A4:Option Addr} {n1 n2 n3 n4 c1 c2 c3 c4:Nat} {x:Int} (s:St G W w1 L) (hk:L[k]?=some (boxC q2 28 g)) (hg:g.length=5) :
  ∃w2,(Instr.storeAt 28 (.pointer (some ⟨q2,0,none⟩)) (.agg #[.slice A1 n1 c1,.slice A2 n2 c2,.slice A3 n3 c3,.int .i64 x,.slice A4 n4 c4])).run Tryd.prog w1 = .ok () w2 ∧
   St G W w2 (L.set k (boxC q2 28 [.slice A1 n1 c1,.slice A2 n2 c2,.slice A3 n3 c3,.int .i64 x,.slice A4 n4 c4])):=by
 obtain ⟨y,yf,yb⟩:=s.box k hk
 match g,hg with
 | [g0,g1,g2,g3,g4],_ =>
 simp [boxAt] at y
 have f0:=yf 0
 have f1:=yf 1
 have f2:=yf 2
 have f3:=yf 3
 have f4:=yf 4
 have hl:=(List.getElem?_eq_some_iff.1 hk).1
 have e:=fun (c:Ch)=>List.getElem?_set_self (a:=c) hl
 have s1:=s.set k hk 0 (.slice A1 n1 c1)
 have s2:=s1.set k (e _) 1 (.slice A2 n2 c2)
 have s3:=s2.set k (by rw [List.set_set];exact e _) 2 (.slice A3 n3 c3)
 have s4:=s3.set k (by simp only [List.set_set];exact e _) 3 (.int .i64 x)
 have s5:=s4.set k (by simp only [List.set_set];exact e _) 4 (.slice A4 n4 c4)
 simp only [List.set_set] at s5
 refine ⟨_,?_,s5⟩
 simp -dsimp [go_sem,y,f0,f1,f2,f3,f4,World.cell?_setCell_other]

theorem storeM {G:Nat→Prop} {W:World} {L:List Ch} {k:Nat} {g:List Value} {c a:Int} (s:St G W w1 L) (hk:L[k]?=some (boxC q3 31 g)) (hg:g.length=3) :
  ∃w2,(Instr.storeAt 31 (.pointer (some ⟨q3,0,none⟩)) (mishV c a)).run Tryd.prog w1 = .ok () w2∧St G W w2 (L.set k (boxC q3 31 [.int .i64 c,.int .i64 a,.slice none 0 0])):=by
 obtain ⟨y,yf,yb⟩:=s.box k hk
 match g,hg with
 | [g0,g1,g2],_ =>
 simp [boxAt] at y
 have f0:=yf 0
 have f1:=yf 1
 have f2:=yf 2
 have hl:=(List.getElem?_eq_some_iff.1 hk).1
 have e:=fun (c:Ch)=>List.getElem?_set_self (a:=c) hl
 have s1:=s.set k hk 0 (.int .i64 c)
 have s2:=s1.set k (e _) 1 (.int .i64 a)
 have s3:=s2.set k (by rw [List.set_set];exact e _) 2 (.slice none 0 0)
 simp only [List.set_set] at s3
 refine ⟨_,?_,s3⟩
 simp -dsimp [go_sem,mishV,y,f0,f1,f2,World.cell?_setCell_other]

theorem loadG {G:Nat→Prop} {W:World} {L:List Ch} {k:Nat} {g0 g1 g2 g3 g4:Value} (s:St G W w1 L) (hk:L[k]?=some (boxC q2 28 [g0,g1,g2,g3,g4])) :
  (Instr.loadAt 28 (.pointer (some ⟨q2,0,none⟩))).run Tryd.prog w1 = .ok (.agg #[g0,g1,g2,g3,g4]) w1:=by
 obtain ⟨y,yf,yb⟩:=s.box k hk
 simp [boxAt] at y
 simp -dsimp [go_sem,y]

/-- The results as they are read in the end. -/
theorem Read_res {G:Nat→Prop} {W:World} {L:List Ch} {k2 k3:Nat} {g0 g1 g2 g3 g4 m0 m1 m2:Value} {tm:Array Value} (h2:tm.getD 2 undef = .pointer (some ⟨q2,0,none⟩)) (h3:tm.getD 3 undef = .pointer (some ⟨q3,0,none⟩)) (s:St G W w1 L) (hk2:L[k2]?=some (boxC q2 28 [g0,g1,g2,g3,g4])) (hk3:L[k3]?=some (boxC q3 31 [m0,m1,m2])) :
  (results Tryd.f12 tm).run Tryd.prog w1 = .ok (.tuple #[.agg #[g0,g1,g2,g3,g4],.agg #[m0,m1,m2]]) w1:=by
 obtain ⟨y,yf,yb⟩:=s.box k2 hk2
 obtain ⟨z,zf,zb⟩:=s.box k3 hk3
 simp [boxAt] at y z
 have hr:Tryd.f12.results=#[.cell 2 28,.cell 3 31]:=rfl
 rw [Array.getD_eq_getD_getElem?] at h2 h3
 simp [results,hr,go_sem,asAddr,h2,h3,y,z]
end
end Go.Proofs.YtckbgeedlobfaaaDoor

/-
  Read: what its pieces do.
-/
namespace Go.Proofs.YtckbgeedlobfaaaDoor
open Go.Px Go.Px.Scan Go.Px.Spec Go.RowKit
attribute [-go_sem] Builtin.append_

section
variable {w w1:World} {R:EP} {q2 q3:Nat}

/-- The results, as they lie in the end. -/
def FinR (w w1:World) (q2 q3:Nat) (g:Gr) (code at':Int):Prop :=
 ∃A1 c1 A2 c2 A3 c3 A4 c4 vs,St noB w w1 [rowC 39 2 A1 g.terms.length c1 (g.terms.flatMap termE),rowC 9 1 A2 g.nons.length c2 (g.nons.map Value.string),rowC 3 1 A3 g.levels.length c3 (g.levels.map (.int .i64 ·)),
   rowC 37 3 A4 g.prods.length c4 ((g.prods.zip vs).flatMap prodE),rowsC 3 1 vs (g.prods.map fun p=>p.2.1.map (.int .i64 ·)),
   boxC q2 28 [.slice A1 g.terms.length c1,.slice A2 g.nons.length c2,.slice A3 g.levels.length c3,.int .i64 g.start,.slice A4 g.prods.length c4],boxC q3 31 [.int .i64 code,.int .i64 at',.slice none 0 0]] ∧
  (∀t∈g.terms,t.1.size≤maxLen∧inI64 t.2)∧(∀s∈g.nons,s.size≤maxLen)∧(∀x∈g.levels,inI64 x)∧inI64 g.start∧∀p∈g.prods,inI64 p.1∧(∀x∈p.2.1,inI64 x)∧inI64 p.2.2

theorem FinR.ans {g:Gr} {code at':Int} (h:FinR w w1 q2 q3 g code at') {tm:Array Value} (h2:tm.getD 2 undef = .pointer (some ⟨q2,0,none⟩)) (h3:tm.getD 3 undef = .pointer (some ⟨q3,0,none⟩)) :
  ∃vg,(results Tryd.f12 tm).run Tryd.prog w1 = .ok (.tuple #[vg,mishV code at']) w1∧GrNew w w1 vg g:=by
 obtain ⟨A1,c1,A2,c2,A3,c3,A4,c4,vs,s,hb⟩:=h
 exact ⟨_,Read_res h2 h3 s (k2:=5) (k3:=6) rfl rfl,A1,c1,A2,c2,A3,c3,A4,c4,vs,rfl,s.take 5,hb⟩

theorem FinR.zero {c a:Int} (s:St noB w w1 [boxC q2 28 zG,boxC q3 31 [.int .i64 c,.int .i64 a,.slice none 0 0]]):FinR w w1 q2 q3 gz c a:=by
 refine ⟨none,0,none,0,none,0,none,0,[],?_,by simp [gz],by simp [gz],by simp [gz],by simp [gz,inI64],by simp [gz]⟩
 exact (((((s.nilRow 39 2).nilRow 9 1).nilRow 3 1).nilRow 37 3).push (c:=rowsC 3 1 [] []) ⟨rfl,fun i v xs hv=>by simp at hv⟩).pick [2,3,4,5,6,0,1] (by decide) rfl

theorem rqC_run {a:Int} {v4:Value} (s:St noB w w1 [boxC q2 28 zG,boxC q3 31 zM])
  (hB:0≤a→∀w',FinR w w' q2 q3 gz 10 a→R (.returned (.agg #[.pointer (some ⟨q2,0,none⟩),.pointer (some ⟨q3,0,none⟩)])) w')
  (hK:¬0≤a→R (.returned (.tuple #[.pointer (some ⟨q2,0,none⟩),.pointer (some ⟨q3,0,none⟩),v4,.int .i64 a])) w1) :
  RqC.b1 R (.pointer (some ⟨q2,0,none⟩)) (.pointer (some ⟨q3,0,none⟩)) v4 (.int .i64 a) w1:=by
 unfold RqC.b1
 simp -dsimp [go_sem]
 refine SPL_intro (fun h=>?_) (fun h=>?_) <;> simp at h
 ·obtain ⟨w2,r2,s2⟩:=storeG (A1:=none) (A2:=none) (A3:=none) (A4:=none) (n1:=0) (n2:=0) (n3:=0) (n4:=0) (c1:=0) (c2:=0) (c3:=0) (c4:=0) (x:=0) s (k:=0) rfl rfl
  obtain ⟨w3,r3,s3⟩:=storeM (c:=10) (a:=a) s2 (k:=1) rfl rfl
  have r2':(Instr.storeAt 28 (.pointer (some ⟨q2,0,none⟩)) (.agg zG.toArray)).run Tryd.prog w1 = .ok () w2:=r2
  unfold RqC.b1_1
  rw [RUN_eq,bG0,RES_ok,RUN_eq,bM2,RES_ok,RUNU_eq,r2',RESU_ok,RUNU_eq,r3,RESU_ok]
  exact hB h _ (FinR.zero s3)
 ·exact hK (by omega)

theorem bMk (x y:Addr) (w:World):(Instr.build 64 #[(0,.pointer (some x)),(1,.pointer (some y))]).run Tryd.prog w = .ok (.agg #[.pointer (some x),.pointer (some y)]) w:=by simp [go_sem]
attribute [go_sem ↓] bMk

theorem rqD_run {G:Nat→Prop} {W:World} {L:List Ch} {b:Nat} {v2 v3:Value} (s:St G W w1 L)
  (hK:∀w' bb bm,St G W w' (L++[bldC bb S0]++[boxC bm 64 [.pointer (some ⟨bb,0,none⟩),.pointer (some ⟨b,0,none⟩)]])→R (.returned (.tuple #[v2,v3,.pointer (some ⟨bm,0,none⟩)])) w') :
  RqD.b1 R v2 v3 (.pointer (some ⟨b,0,none⟩)) w1:=by
 unfold RqD.b1
 refine CALL_New s fun w2 bb s2=>?_
 have s3:=s2.alloc #[.pointer (some ⟨bb,0,none⟩),.pointer (some ⟨b,0,none⟩)] 64
 unfold RqD.b1_1
 simp -dsimp [go_sem]
 exact hK _ _ _ s3

theorem xt0 (x y:Value) (w:World):(Instr.extract (.tuple #[x,y]) 0).run Tryd.prog w = .ok x w:=by simp [go_sem]
theorem xt1 (x y:Value) (w:World):(Instr.extract (.tuple #[x,y]) 1).run Tryd.prog w = .ok y w:=by simp [go_sem]

theorem rqE_run {S:BS} {bm bb b:Nat} (s:St noB w w1 [boxC q2 28 zG,boxC q3 31 zM,boxC bm 64 [.pointer (some ⟨bb,0,none⟩),.pointer (some ⟨b,0,none⟩)],bldC bb S])
  (hK:∀w',FinR w w' q2 q3 (if toldB S=true then gramOf S else gz) (if toldB S=true then 0 else 1) 0→R (.returned (.agg #[.pointer (some ⟨q2,0,none⟩),.pointer (some ⟨q3,0,none⟩)])) w') :
  RqE.b1 R (.pointer (some ⟨q2,0,none⟩)) (.pointer (some ⟨q3,0,none⟩)) (.pointer (some ⟨bm,0,none⟩)) w1:=by
 have ym:=(s.box 2 rfl).1
 simp [boxAt] at ym
 unfold RqE.b1
 simp -dsimp [go_sem,ym]
 refine CALL_Grammar s 3 rfl fun v w2 ok wf s2 hA=>?_
  -- a grammar, and the code
 have key:∀(g:Gr) (e:Int) A1 c1 A2 c2 A3 c3 A4 c4 (L:List Ch),St noB w w2 ([boxC q2 28 zG,boxC q3 31 zM]++L)→v = .tuple #[.agg #[.slice A1 g.terms.length c1,.slice A2 g.nons.length c2,.slice A3 g.levels.length c3,.int .i64 g.start,.slice A4 g.prods.length c4],.int .i64 e] →
   (∀w',St noB w w' ([boxC q2 28 [.slice A1 g.terms.length c1,.slice A2 g.nons.length c2,.slice A3 g.levels.length c3,.int .i64 g.start,.slice A4 g.prods.length c4],boxC q3 31 [.int .i64 e,.int .i64 0,.slice none 0 0]]++L)→FinR w w' q2 q3 g e 0) →
   g=(if toldB S=true then gramOf S else gz)→e=(if toldB S=true then 0 else 1)→RqE.b1_1 R (.pointer (some ⟨q2,0,none⟩)) (.pointer (some ⟨q3,0,none⟩)) v w2:=by
  rintro g e A1 c1 A2 c2 A3 c3 A4 c4 L s3 rfl hF hg he
  obtain ⟨w3,r3,s4⟩:=storeG (A1:=A1) (A2:=A2) (A3:=A3) (A4:=A4) (n1:=g.terms.length) (n2:=g.nons.length) (n3:=g.levels.length) (n4:=g.prods.length) (c1:=c1) (c2:=c2) (c3:=c3) (c4:=c4) (x:=g.start) s3 (k:=0) rfl rfl
  have l3:=loadG s4 (k:=0) rfl
  obtain ⟨w4,r4,s5⟩:=storeG (A1:=A1) (A2:=A2) (A3:=A3) (A4:=A4) (n1:=g.terms.length) (n2:=g.nons.length) (n3:=g.levels.length) (n4:=g.prods.length) (c1:=c1) (c2:=c2) (c3:=c3) (c4:=c4) (x:=g.start) s4 (k:=0) rfl rfl
  obtain ⟨w5,r5,s6⟩:=storeM (c:=e) (a:=0) s5 (k:=1) rfl rfl
  unfold RqE.b1_1
  rw [RUN_eq,xt0,RES_ok,RUN_eq,xt1,RES_ok,RUNU_eq,r3,RESU_ok,RUN_eq,l3,RES_ok,RUN_eq,bM1,RES_ok,RUNU_eq,r4,RESU_ok,RUNU_eq,r5,RESU_ok]
  have:=hF w5 s6
  rw [hg,he] at this
  exact hK w5 this
 cases ht:toldB S with
 | true =>
  obtain ⟨vg,hv,A1,c1,A2,c2,A3,c3,A4,c4,vs,rfl,s3,hb⟩:=hA.2.1 ht
  refine key (gramOf S) 0 A1 c1 A2 c2 A3 c3 A4 c4 [rowC 39 2 A1 (gramOf S).terms.length c1 ((gramOf S).terms.flatMap termE),rowC 9 1 A2 (gramOf S).nons.length c2 ((gramOf S).nons.map Value.string),rowC 3 1 A3 (gramOf S).levels.length c3 ((gramOf S).levels.map (.int .i64 ·)),
   rowC 37 3 A4 (gramOf S).prods.length c4 (((gramOf S).prods.zip vs).flatMap prodE),rowsC 3 1 vs ((gramOf S).prods.map fun p=>p.2.1.map (.int .i64 ·))] ((s.seq s3).pick [0,1,4,5,6,7,8] (by decide) rfl) hv (fun w' s'=>?_) (by rw [ht];rfl) (by rw [ht];rfl)
  exact ⟨A1,c1,A2,c2,A3,c3,A4,c4,vs,s'.pick [2,3,4,5,6,0,1] (by decide) rfl,hb⟩
 | false =>
  have hv:=hA.2.2 ht
  refine key gz 1 none 0 none 0 none 0 none 0 [] (s2.take 2) hv (fun w' s'=>FinR.zero s') (by rw [ht];rfl) (by rw [ht];rfl)
end
end Go.Proofs.YtckbgeedlobfaaaDoor
