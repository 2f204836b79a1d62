/-
  Texts of this claim: Tp3, Tp4, Tp5, Tp6, Tp7, LzT, Lz4, Lo7, Lo8, Lo9, Gs6, LoA, LoB.
-/
import Derived.Test.YtmoepnfobnpdiaaY12
import Derived.Test.YtmoepnfobnpdiaaY13
import Derived.Test.YtmoepnfobnpdiaaY02
import Derived.Test.YtmoepnfobnpdiaaY04
import Derived.Shelf.Sort.Plain
import Derived.Shelf.Slices.In.SortNone
import Derived.Test.YtmoepnfobnpdiaaY10
import Derived.Maps.RangeWalk
set_option maxHeartbeats 1000000
set_option linter.unusedSimpArgs false
set_option linter.unusedVariables false
set_option maxRecDepth 100000
/-
  The canonical collection: what is appended to the queue.
-/
namespace Go.Px
section
variable {G:Nat→Prop} {W w:World} {L L':List Ch}
theorem St.left (h:St G W w (L++L')):St G W w L:=by
 have:=h.take L.length
 rwa [List.take_left] at this
/-- The last piece takes another one's place. -/
theorem St.swapEnd {x:Ch} (h:St G W w (L++[x])) (k:Nat) (hk:k<L.length):St G W w (L.set k x):=by
 have h1:=h.merge (j:=L.length) (k:=k) (c:=x) (d:=L[k]) (e:=x) (by rw [List.getElem?_append_right (Nat.le_refl _)];simp) (by rw [List.getElem?_append_left hk,List.getElem?_eq_getElem hk]) (by omega)
  (fun F F' h1 _=>x.keep h1 (Chg.refl noB _) (fun _ _ _=>id) fun _ _ h=>Or.inl h)
 have e:(((L++[x]).set L.length Ch.emp).set k x)=L.set k x++[Ch.emp]:=by
  rw [List.set_append_right _ _ (Nat.le_refl _),List.set_append_left _ _ hk];simp
 rw [e] at h1
 exact h1.left
theorem St.qTail' {size n c:Nat} {a:Addr} (h:St G W w L) (k:Nat) {x r:List Value} (hk:L[k]?=some (qC size a (n+1) c (x++r))) (hx:x.length=size):St G W w (L.set k (qC size (if c=1 then a else ⟨a.block,a.off+size,none⟩) n (c-1) r)):=by
 refine h.turn hk fun F ⟨h1,h2,h3,h4,h5,h6,h7,h8,h9⟩=>?_
 rw [List.length_append,hx,Nat.succ_mul] at h1
 by_cases e:c=1
 ·have hn:n=0:=by omega
  subst hn
  have hr:r=[]:=List.eq_nil_of_length_eq_zero (by omega)
  subst hr
  rw [if_pos e]
  exact ⟨by simp,by omega,by omega,h4,h5,h6,fun j u hj=>by simp at hj,fun j hj=>by rw [e] at hj;simp at hj,h9⟩
 ·rw [if_neg e]
  refine ⟨by omega,by omega,by omega,rfl,h5,h6,fun j u hj=>?_,fun j hj=>?_,h9⟩
  ·rw [Nat.add_assoc]
   refine h7 (size+j) u ?_
   rw [List.getElem?_append_right (by omega),hx,Nat.add_sub_cancel_left];exact hj
  ·rw [Nat.add_assoc]
   refine h8 (size+j) ?_
   have:c*size=(c-1)*size+size:=by rw [←Nat.succ_mul];congr 1;omega
   omega
end
end Go.Px
namespace Go.Px.Cn
open Go.Px Go.Px.Scan
/-- What a collection's making reads. -/
structure CanEnv (W:World) (B:Nat) (g:Gr) (A1 A2 A3 A4:Option Addr) (c1 c2 c3 c4 bb mN mH cH:Nat) (ga:Nat→Nat) (null:List Bool) (hs:List (List Bool)):Prop where
 gr:rGram.atN W B (.agg #[.slice A1 g.terms.length c1,.slice A2 g.nons.length c2,.slice A3 g.levels.length c3,.int .i64 g.start,.slice A4 g.prods.length c4]) g
 hB:B≤W.heap.size
 cl:ClosedP g
 nl:null.length=g.nons.length
 hl:hs.length=g.terms.length+g.nons.length
 hc:hs.length≤cH
 out:∀s u,¬u<g.terms.length→(hs.getD s []).getD u false=false
 bg:∀w',Chg noB W w'→BgAt w' bb [.slice A1 g.terms.length c1,.slice A2 g.nons.length c2,.slice A3 g.levels.length c3,.int .i64 g.start,.slice A4 g.prods.length c4] g.terms.length mN g.nons.length mH cH ga null hs
def canB (g:Gr) (A1 A2 A3 A4:Option Addr) (c1 c2 c3 c4 bb cb left:Nat):Ch :=
 boxC cb 76 [.slice A1 g.terms.length c1,.slice A2 g.nons.length c2,.slice A3 g.levels.length c3,.int .i64 g.start,.slice A4 g.prods.length c4,.pointer (some ⟨bb,0,none⟩),.int .i64 left]
/-- An item with a lookahead is one. -/
def ItOk (g:Gr) (z:It1):Prop:=z.1.1<g.prods.length∧z.1.2≤(rgt g.prods z.1.1).length∧z.2<g.terms.length
def moreT (q nT:Nat) (cond:Nat→Bool):List It1:=((List.range nT).filter cond).map fun u=>((q,0),u)
def moreP (P:Prs) (s:Int) (nT:Nat) (cond:Nat→Bool) (k:Nat):List It1:=(List.range k).flatMap fun q=>if lft P q=s then moreT q nT cond else []
theorem moreT_succ (q j:Nat) (cond:Nat→Bool):moreT q (j+1) cond=if cond j then moreT q j cond++[((q,0),j)] else moreT q j cond:=by
 unfold moreT
 rw [List.range_succ,List.filter_append,List.map_append]
 cases h:cond j <;> simp [h]
theorem moreP_succ (P:Prs) (s:Int) (nT k:Nat) (cond:Nat→Bool):moreP P s nT cond (k+1)=if lft P k=s then moreP P s nT cond k++moreT k nT cond else moreP P s nT cond k:=by
 unfold moreP
 rw [List.range_succ,List.flatMap_append]
 by_cases h:lft P k=s <;> simp [h]
theorem moreT_len (q nT:Nat) (cond:Nat→Bool):(moreT q nT cond).length≤nT:=by
 unfold moreT
 rw [List.length_map]
 have:=List.length_filter_le cond (List.range nT)
 rwa [List.length_range] at this
theorem moreP_len (P:Prs) (s:Int) (nT k:Nat) (cond:Nat→Bool):(moreP P s nT cond k).length≤k*nT:=by
 induction k with
 | zero=>simp [moreP]
 | succ k ih =>
  rw [moreP_succ,Nat.succ_mul]
  split
  ·rw [List.length_append];have:=moreT_len k nT cond;omega
  ·omega
theorem mem_moreP {P:Prs} {s:Int} {nT:Nat} {cond:Nat→Bool} {z:It1}:z∈moreP P s nT cond P.length↔∃q u,q<P.length∧lft P q=s∧u<nT∧cond u=true∧z=((q,0),u):=by
 unfold moreP moreT
 rw [List.mem_flatMap]
 constructor
 ·rintro ⟨q,hq,hz⟩
  rw [List.mem_range] at hq
  split at hz
  ·next h =>
   rw [List.mem_map] at hz
   obtain ⟨u,hu,rfl⟩:=hz
   rw [List.mem_filter,List.mem_range] at hu
   exact ⟨q,u,hq,h,hu.1,hu.2,rfl⟩
  ·cases hz
 ·rintro ⟨q,u,hq,h,hu,hc,rfl⟩
  refine ⟨q,List.mem_range.2 hq,?_⟩
  rw [if_pos h,List.mem_map]
  exact ⟨u,List.mem_filter.2 ⟨List.mem_range.2 hu,hc⟩,rfl⟩
end Go.Px.Cn
namespace Go.Proofs.Ytmoepnfobnpdiaa
open Go.Px Go.Px.Scan Go.Px.Cn Go.RowKit
attribute [-go_sem] Builtin.append_ top_canon_closure.b13 top_canon_closure.b20 top_canon_closure.b23_1 top_canon_closure.b23 top_canon_closure.b22_1 top_canon_closure.b22 top_canon_closure.b15
theorem bFl (p d t:Int) (w:World):(Instr.build 79 #[(0,.agg #[.int .i64 p,.int .i64 d]),(1,.int .i64 t)]).run Try.prog w = .ok (.agg #[.int .i64 p,.int .i64 d,.int .i64 t]) w:=by
 have e0:∀(A:Array Value),Array.foldl (fun (cs:Array Value) (x:Value×Nat)=>cs.setIfInBounds x.snd x.fst) A (Value.agg #[.int .i64 p,.int .i64 d]).cells.zipIdx 0 2=(A.setIfInBounds 0 (.int .i64 p)).setIfInBounds 1 (.int .i64 d):=fun A=>rfl
 have e1:∀(A:Array Value) (k:Nat) (q:Int),Array.foldl (fun (cs:Array Value) (x:Value×Nat)=>cs.setIfInBounds (k+x.snd) x.fst) A (Value.int .i64 q).cells.zipIdx 0 1=A.setIfInBounds k (.int .i64 q):=fun A k q=>rfl
 simp [go_sem,e0,e1]
theorem bIt1 (q:Int) (w:World):(Instr.build 57 #[(0,.int .i64 q)]).run Try.prog w = .ok (.agg #[.int .i64 q,.int .i64 0]) w:=by simp [go_sem]
theorem bIt2 (q d:Int) (w:World):(Instr.build 57 #[(0,.int .i64 q),(1,.int .i64 d)]).run Try.prog w = .ok (.agg #[.int .i64 q,.int .i64 d]) w:=by simp [go_sem]
theorem bFl0 (w:World):(Instr.build 79 #[]).run Try.prog w = .ok (.agg #[.int .i64 0,.int .i64 0,.int .i64 0]) w:=by simp [go_sem]
attribute [go_sem ↓] bFl bIt1 bIt2
/-- One production's items are appended. -/
theorem app_term {G:Nat→Prop} {W w:World} {L:List Ch} {kq ko kb o ab nT n0 q:Nat} {out:List Bool} {emp:Bool} {z:It1} {t0:List It1} {a0:Addr} {cc0:Nat} {R:EP} {C5:Value→VP} {C10:Value→VP}
  (hq:L[kq]?=some (qC 3 a0 t0.length cc0 (t0.flatMap fV))) (ho:L[ko]?=some (rowC 4 1 (some ⟨o,0,none⟩) nT nT (boolV out))) (hb:L[kb]?=some (boxC ab 79 (fV z))) (hqo:kq≠ko) (hqb:kq≠kb) (s:St G W w L) (hout:out.length=nT) (hT:nT≤65) (hq1:q≤1000) (hlen:t0.length≤200000000)
  (hgo:∀w' a' cc',St G W w' (L.set kq (qC 3 a' (t0++moreT q nT fun u=>out.getD u false || (emp && decide (u=z.2))).length cc' ((t0++moreT q nT fun u=>out.getD u false || (emp && decide (u=z.2))).flatMap fV)))→top_canon_closure.b13 R C5 C10 (.slice (some a') (t0++moreT q nT fun u=>out.getD u false || (emp && decide (u=z.2))).length cc') (.int .i64 q) w') :
  top_canon_closure.l17 R C5 C10 (.slice (some a0) t0.length cc0) (.pointer (some ⟨ab,0,none⟩)) (.slice (some ⟨o,0,none⟩) nT nT) (.bool emp) (.int .i64 q) (.int .i64 0) w:=by
 have hkl:=(List.getElem?_eq_some_iff.1 hq).1
 have hL0:L.set kq (qC 3 a0 t0.length cc0 (t0.flatMap fV))=L:=by rw [←(List.getElem?_eq_some_iff.1 hq).2,List.set_getElem_self]
 obtain ⟨cond,hcond⟩:∃cond:Nat→Bool,(fun u=>out.getD u false || (emp && decide (u=z.2)))=cond:=⟨_,rfl⟩
 rw [hcond] at hgo
 refine top_canon_closure.l17_intro _ _ _ _ _ _ _ _ _ _ (fun x y w'=>∃(j:Nat) (a:Addr) (cc:Nat) (T:List It1),T=t0++moreT q j cond∧x = .slice (some a) T.length cc∧y = .int .i64 j∧j≤nT∧St G W w' (L.set kq (qC 3 a T.length cc (T.flatMap fV)))) (fun _ y _=>nT-iv y)
  ⟨0,a0,cc0,t0,by simp [moreT],rfl,rfl,by omega,by rw [hL0];exact s⟩ ?_
 rintro _ _ w1 ⟨j,a,cc,T,hTe,rfl,rfl,hj,s1⟩ C hC
 have wj:IntKind.i64.wrap ((j:Int)+1)=(j:Int)+1:=IntWalk.i64_in _ (by omega)
 have hTl:T.length≤200000100:=by
  rw [hTe,List.length_append]
  have:=moreT_len q j cond
  omega
 have hup:∀w' a' cc' T',T'=t0++moreT q (j+1) cond→j<nT→St G W w' (L.set kq (qC 3 a' T'.length cc' (T'.flatMap fV)))→top_canon_closure.b20 R C5 C10 C (.slice (some a') T'.length cc') (.int .i64 j) w':=by
  intro w' a' cc' T' h1 h2 h3
  unfold top_canon_closure.b20
  simp -dsimp [go_sem,wj]
  exact hC _ _ _ ⟨j+1,a',cc',T',h1,rfl,by simp,by omega,h3⟩ (by simp [iv];omega)
 have hyes:∀w',cond j=true→j<nT→St G W w' (L.set kq (qC 3 a T.length cc (T.flatMap fV)))→top_canon_closure.b23 R C5 C10 C (.slice (some a) T.length cc) (.int .i64 q) (.int .i64 j) (.bool true) w':=by
  intro w2 hc hjn s2
  unfold top_canon_closure.b23
  simp -dsimp [go_sem]
  have s3:=s2.old ((Chg.refl noB w2).alloc (.cells #[.int .i64 q,.int .i64 0,.int .i64 j] 79))
  unfold top_canon_closure.b23_1
  simp -dsimp [go_sem]
  refine s3.qAppend kq (by rw [List.getElem?_set_self hkl]) uFulls iFull rfl (by decide) (news:=[.int .i64 q,.int .i64 0,.int .i64 j]) (m:=1) rfl (alloc_cells w2 [.int .i64 q,.int .i64 0,.int .i64 j] 79 rfl) (by simp [Value.oneCell']) (by unfold maxLen;omega) (by unfold maxBytes;omega) ?_
  intro a' cc' w4 s4
  rw [List.set_set] at s4
  have e1:T++[((q,0),j)]=t0++moreT q (j+1) cond:=by rw [moreT_succ,hc,if_pos rfl,hTe,List.append_assoc]
  have e2:T.flatMap fV++[.int .i64 q,.int .i64 0,.int .i64 j]=(T++[(((q,0),j):It1)]).flatMap fV:=by rw [List.flatMap_append];simp [fV]
  have e3:T.length+1=(T++[(((q,0),j):It1)]).length:=by simp
  rw [e2,e3] at s4
  rw [e3]
  exact hup w4 a' cc' _ e1 hjn s4
 have hno:∀w',cond j=false→j<nT→St G W w' (L.set kq (qC 3 a T.length cc (T.flatMap fV)))→top_canon_closure.b23 R C5 C10 C (.slice (some a) T.length cc) (.int .i64 q) (.int .i64 j) (.bool false) w':=by
  intro w2 hc hjn s2
  unfold top_canon_closure.b23
  simp -dsimp [go_sem]
  exact hup _ _ _ T (by rw [moreT_succ,hc];exact hTe) hjn s2
 simp -dsimp [go_sem]
 refine SPL_intro (fun p1=>?_) (fun p1=>?_) <;> simp at p1
 ·obtain ⟨co,_⟩:=bool_at s1 (k:=ko) (by rw [List.getElem?_set_ne hqo];exact ho) (ms:=out) (j:=j) (by omega)
  obtain ⟨ob,hob⟩:∃b,out[j]'(by omega)=b:=⟨_,rfl⟩
  have hcj:cond j=(ob || (emp && decide (j=z.2))):=by
   rw [←hcond]
   show (out.getD j false || (emp && decide (j=z.2)))=_
   rw [List.getD_eq_getElem?_getD,List.getElem?_eq_getElem (by omega),←hob];rfl
  rw [hob] at co
  unfold top_canon_closure.b22
  simp -dsimp [go_sem,p1,co]
  cases ob with
  | true =>
   simp -dsimp [go_sem]
   exact hyes _ (by rw [hcj];rfl) p1 s1
  | false =>
   simp -dsimp [go_sem]
   cases emp with
   | false =>
    simp -dsimp [go_sem]
    exact hno _ (by rw [hcj];rfl) p1 s1
   | true =>
    simp -dsimp [go_sem]
    have y1:=(s1.box kb (by rw [List.getElem?_set_ne hqb];exact hb)).1
    simp [boxAt,fV] at y1
    unfold top_canon_closure.b22_1
    simp -dsimp [go_sem,y1]
    have hcj2:cond j=decide (j=z.2):=by rw [hcj];simp
    by_cases e:j=z.2
    ·have e2:((j:Int) == (z.2:Int))=true:=by simp [e]
     rw [e2]
     exact hyes w1 (by rw [hcj2,decide_eq_true e]) p1 s1
    ·have e2:((j:Int) == (z.2:Int))=false:=by simp;omega
     rw [e2]
     exact hno w1 (by rw [hcj2,decide_eq_false e]) p1 s1
 ·have hje:j=nT:=by omega
  subst hje
  subst hTe
  exact hgo w1 a cc s1
end Go.Proofs.Ytmoepnfobnpdiaa

/-
  The canonical collection: all items behind a nonterminal are appended.
-/
namespace Go.Proofs.Ytmoepnfobnpdiaa
open Go.Px Go.Px.Scan Go.Px.Cn Go.RowKit
attribute [-go_sem] Builtin.append_ top_canon_closure.b13 top_canon_closure.b20 top_canon_closure.b23_1 top_canon_closure.b23 top_canon_closure.b22_1 top_canon_closure.b22 top_canon_closure.b15
section
variable {W w:World} {B:Nat} {g:Gr} {A1 A2 A3 A4:Option Addr} {c1 c2 c3 c4 bb mN mH cH:Nat} {ga:Nat→Nat} {null:List Bool} {hs:List (List Bool)}
theorem _root_.Go.Px.Cn.CanEnv.r4 (e:CanEnv W B g A1 A2 A3 A4 c1 c2 c3 c4 bb mN mH cH ga null hs):(rSlice rPr).at1 W B (.slice A4 g.prods.length c4) g.prods:=by
 obtain ⟨_,_,_,_,_,_,_,_,e,_,_,_,_,h5,_⟩:=(rGram_open e.gr).ex
 injection e with e;injection e with e;simp at e;rw [e.2.2.2.1,e.2.2.2.2];exact h5
theorem app_prods {L:List Ch} {kc kq ko kb o ab cb left n0:Nat} {out:List Bool} {emp:Bool} {z:It1} {t0:List It1} {a0:Addr} {cc0:Nat} {x5:Value} {s:Int} {R:EP} {C5:Value→VP} (env:CanEnv W B g A1 A2 A3 A4 c1 c2 c3 c4 bb mN mH cH ga null hs)
  (hc:L[kc]?=some (canB g A1 A2 A3 A4 c1 c2 c3 c4 bb cb left)) (hq:L[kq]?=some (qC 3 a0 t0.length cc0 (t0.flatMap fV))) (ho:L[ko]?=some (rowC 4 1 (some ⟨o,0,none⟩) g.terms.length g.terms.length (boolV out))) (hb:L[kb]?=some (boxC ab 79 (fV z))) (hqo:kq≠ko) (hqb:kq≠kb) (hqc:kq≠kc) (st:St noB W w L) (hout:out.length=g.terms.length) (hlen:t0.length≤190000000)
  (hgo:∀w' a' cc',St noB W w' (L.set kq (qC 3 a' (t0++moreP g.prods s g.terms.length (fun u=>out.getD u false || (emp && decide (u=z.2))) g.prods.length).length cc' ((t0++moreP g.prods s g.terms.length (fun u=>out.getD u false || (emp && decide (u=z.2))) g.prods.length).flatMap fV)))→C5 x5 (.slice (some a') (t0++moreP g.prods s g.terms.length (fun u=>out.getD u false || (emp && decide (u=z.2))) g.prods.length).length cc') w') :
  top_canon_closure.l10 R C5 (.pointer (some ⟨cb,0,none⟩)) x5 (.slice (some a0) t0.length cc0) (.pointer (some ⟨ab,0,none⟩)) (.int .i64 s) (.slice (some ⟨o,0,none⟩) g.terms.length g.terms.length) (.bool emp) (.int .i64 0) w:=by
 have hkl:=(List.getElem?_eq_some_iff.1 hq).1
 have hL0:L.set kq (qC 3 a0 t0.length cc0 (t0.flatMap fV))=L:=by rw [←(List.getElem?_eq_some_iff.1 hq).2,List.set_getElem_self]
 have hT:=env.cl.syms.t1
 have hP:=env.cl.prods.c1
 obtain ⟨cond,hcond⟩:∃cond:Nat→Bool,(fun u=>out.getD u false || (emp && decide (u=z.2)))=cond:=⟨_,rfl⟩
 rw [hcond] at hgo
 refine top_canon_closure.l10_intro _ _ _ _ _ _ _ _ _ _ _ (fun x y w'=>∃(k:Nat) (a:Addr) (cc:Nat) (T:List It1),T=t0++moreP g.prods s g.terms.length cond k∧x = .slice (some a) T.length cc∧y = .int .i64 k∧k≤g.prods.length∧St noB W w' (L.set kq (qC 3 a T.length cc (T.flatMap fV)))) (fun _ y _=>g.prods.length-iv y)
  ⟨0,a0,cc0,t0,by simp [moreP],rfl,rfl,by omega,by rw [hL0];exact st⟩ ?_
 rintro _ _ w1 ⟨k,a,cc,T,hTe,rfl,rfl,hk,s1⟩ C hC
 have wk:IntKind.i64.wrap ((k:Int)+1)=(k:Int)+1:=IntWalk.i64_in _ (by omega)
 have hTl:T.length≤190010000:=by
  rw [hTe,List.length_append]
  have h1:=moreP_len g.prods s g.terms.length k cond
  have h2:k*g.terms.length≤97*65:=Nat.mul_le_mul (by omega) hT
  omega
 have hup:∀w' a' cc' T',T'=t0++moreP g.prods s g.terms.length cond (k+1)→k<g.prods.length→St noB W w' (L.set kq (qC 3 a' T'.length cc' (T'.flatMap fV)))→top_canon_closure.b13 R C5 C (.slice (some a') T'.length cc') (.int .i64 k) w':=by
  intro w' a' cc' T' h1 h2 h3
  unfold top_canon_closure.b13
  simp -dsimp [go_sem,wk]
  exact hC _ _ _ ⟨k+1,a',cc',T',h1,rfl,by simp,by omega,h3⟩ (by simp [iv];omega)
 have y1:=(s1.box kc (by rw [List.getElem?_set_ne hqc];exact hc)).1
 simp [boxAt] at y1
 simp -dsimp [go_sem,y1]
 refine SPL_intro (fun p1=>?_) (fun p1=>?_) <;> simp at p1
 ·obtain ⟨b,of,vr,eA,hbB,x1,x2,x3,hr,_⟩:=prods_at env.r4 p1
  have x1:=s1.chg.at x1 id
  have hlk:lft g.prods k=g.prods[k].1:=by unfold lft;rw [List.getD_eq_getElem?_getD,List.getElem?_eq_getElem p1];rfl
  obtain ⟨lf,hlf⟩:∃lf,g.prods[k].1=lf:=⟨_,rfl⟩
  rw [hlf] at x1 hlk
  rw [eA] at y1
  unfold top_canon_closure.b15
  simp -dsimp [go_sem,y1,p1,x1]
  by_cases e:lf=s
  ·have e2:(!(lf == s))=false:=by simp [e]
   simp -dsimp [go_sem,e2,e]
   have hms:∀T',T'=T++moreT k g.terms.length cond→T'=t0++moreP g.prods s g.terms.length cond (k+1):=fun T' h=>by
    rw [h,moreP_succ,hlk,if_pos e,hTe,List.append_assoc]
   refine app_term (L:=L.set kq (qC 3 a T.length cc (T.flatMap fV))) (kq:=kq) (ko:=ko) (kb:=kb) (emp:=emp) (z:=z) (out:=out) (n0:=0) (by rw [List.getElem?_set_self hkl]) (by rw [List.getElem?_set_ne hqo];exact ho) (by rw [List.getElem?_set_ne hqb];exact hb) hqo hqb s1 hout hT (by omega) (by omega) ?_
   rw [hcond]
   intro w' a' cc' s2
   rw [List.set_set] at s2
   exact hup w' a' cc' _ (hms _ rfl) p1 s2
  ·rw [show (lf != s)=true by simp [e]]
   simp -dsimp [go_sem]
   refine hup w1 a cc T ?_ p1 s1
   rw [moreP_succ,hlk,if_neg e];exact hTe
 ·have hke:k=g.prods.length:=by omega
  subst hke
  subst hTe
  exact hgo w1 a cc s1
end
end Go.Proofs.Ytmoepnfobnpdiaa

/-
  The canonical collection: closure.
-/
namespace Go.Px.Cn
open Go.Px Go.Px.Scan
theorem fl_at1 {G:Nat→Prop} {W w:World} {L:List Ch} {A:Option Addr} {c:Nat} {l:List It1} (s:St G W w L) (k:Nat) (hk:L[k]?=some (rowC 79 3 A l.length c (l.flatMap fV))):(rSlice rFl).at1 w w.heap.size (.slice A l.length c) l:=by
 obtain ⟨F,ho,hF⟩:=s.get hk
 obtain ⟨_,h2,h3⟩:=s.rowSize k hk
 refine ⟨A,c,rfl,h2,h3,trivial,fun hp=>?_⟩
 obtain ⟨g,eg,_⟩:=row_elem ho (fun _ _=>rfl) (by decide) (i:=0) (x:=l[0]) (List.getElem?_eq_getElem hp)
 subst eg
 refine ⟨g,0,rfl,?_,fun i x hi=>⟨fV x,rfl,fun j u hj=>?_⟩⟩
 ·have:=(hF g (ho.2 g rfl)).1
  exact this
 ·obtain ⟨g',eg',hc,_⟩:=row_elem ho (fun _ _=>rfl) (by decide) hi
  injection eg' with eg';injection eg' with eg';subst eg'
  have:=hc j u hj
  rw [Nat.zero_add];exact this
section
variable {W w:World} {B:Nat} {g:Gr} {A1 A2 A3 A4:Option Addr} {c1 c2 c3 c4 bb mN mH cH:Nat} {ga:Nat→Nat} {null:List Bool} {hs:List (List Bool)}
theorem succ_none (hcl:ClosedP g) {z z':It1} (h:¬((g.terms.length:Int)≤aftI g.prods z.1∧aftI g.prods z.1<(g.terms.length:Int)+g.nons.length)):¬Succ g.prods (FI g.terms.length null hs) z z':=by
 rintro ⟨s,q,u,h1,h2,h3,_⟩
 have e:aftI g.prods z.1=s:=by unfold aftI;rw [h1];rfl
 rw [e] at h
 have:=(hcl.syms' g.prods[q] (List.getElem_mem h2)).1
 unfold lft at h3
 rw [List.getD_eq_getElem?_getD,List.getElem?_eq_getElem h2] at h3
 have h3:g.prods[q].1=s:=h3
 rw [h3] at this
 exact h this
theorem succ_more (env:CanEnv W B g A1 A2 A3 A4 c1 c2 c3 c4 bb mN mH cH ga null hs) {z:It1} {s:Int} (hz:ItOk g z) (hs':aft g.prods z.1=some s) {out:List Bool} (hout:∀u,u<g.terms.length→out.getD u false=fstB g.terms.length null hs ((rgt g.prods z.1.1).drop (z.1.2+1)) u) (z':It1) :
  z'∈moreP g.prods s g.terms.length (fun u=>out.getD u false || (((rgt g.prods z.1.1).drop (z.1.2+1)).all (vanS g.terms.length null) && decide (u=z.2))) g.prods.length↔Succ g.prods (FI g.terms.length null hs) z z':=by
 rw [mem_moreP]
 unfold Succ FI
 constructor
 ·rintro ⟨q,u,h1,h2,h3,h4,rfl⟩
  refine ⟨s,q,u,hs',h1,h2,?_,rfl⟩
  rw [hout u h3,Bool.or_eq_true,Bool.and_eq_true,decide_eq_true_eq] at h4
  exact h4
 ·rintro ⟨s',q,u,h1,h2,h3,h4,rfl⟩
  rw [hs'] at h1
  injection h1 with h1
  subst h1
  have hu:u<g.terms.length:=by
   rcases h4 with h4 | h4
   ·apply Classical.byContradiction
    intro h
    rw [fstB_out (fun s=>env.out s u h)] at h4
    cases h4
   ·rw [h4.2];exact hz.2.2
  refine ⟨q,u,h2,h3,hu,?_,rfl⟩
  rw [hout u hu,Bool.or_eq_true,Bool.and_eq_true,decide_eq_true_eq]
  exact h4
theorem more_ok {s:Int} {cond:Nat→Bool}:∀z∈moreP g.prods s g.terms.length cond g.prods.length,ItOk g z:=by
 intro z hz
 obtain ⟨q,u,h1,h2,h3,h4,rfl⟩:=mem_moreP.1 hz
 exact ⟨h1,Nat.zero_le _,h3⟩
end
end Go.Px.Cn

/-
  The canonical collection: closure, walked.
-/
namespace Go.Proofs.Ytmoepnfobnpdiaa
open Go.Px Go.Px.Scan Go.Px.Cn Go.RowKit
attribute [-go_sem] Builtin.append_ top_canon_closure.b3 top_canon_closure.b8_1 top_canon_closure.b8_2 top_canon_closure.b8_3 top_canon_closure.b8_4 top_canon_closure.b8_5 top_canon_closure.b8 top_canon_closure.b25 top_canon_closure.b24_1
section
variable {W w:World} {B:Nat} {g:Gr} {A1 A2 A3 A4:Option Addr} {c1 c2 c3 c4 bb mN mH cH:Nat} {ga:Nat→Nat} {null:List Bool} {hs:List (List Bool)}
/-- One item is looked at. -/
theorem cl_step (env:CanEnv W B g A1 A2 A3 A4 c1 c2 c3 c4 bb mN mH cH ga null hs) {M:List Ch} {cb left:Nat} {a:Addr} {cc:Nat} {z:It1} {todo sl:List It1} {As:Option Addr} {cs:Nat} {X3 X4:Ch} {R:EP} {C5:Value→VP}
  (st:St noB W w (canB g A1 A2 A3 A4 c1 c2 c3 c4 bb cb (left+1)::qC 3 a (todo.length+1) cc (fV z++todo.flatMap fV)::rowC 79 3 As sl.length cs (sl.flatMap fV)::X3::X4::M)) (hl:left≤20000) (hsl:sl.length≤20000) (hlen:todo.length≤180000000)
  (hz:ItOk g z) (hsrt:sl.Pairwise fLt)
  (hold:∀w' a' cc' X3' X4',z∈sl→St noB W w' (canB g A1 A2 A3 A4 c1 c2 c3 c4 bb cb (left+1)::qC 3 a' todo.length cc' (todo.flatMap fV)::rowC 79 3 As sl.length cs (sl.flatMap fV)::X3'::X4'::M)→C5 (.slice As sl.length cs) (.slice (some a') todo.length cc') w')
  (hnew:∀w' a' cc' g2 cap more X3' X4',z∉sl→(∀z',z'∈more↔Succ g.prods (FI g.terms.length null hs) z z')→(∀z'∈more,ItOk g z')→more.length≤6305→St noB W w' (canB g A1 A2 A3 A4 c1 c2 c3 c4 bb cb left::qC 3 a' (todo++more).length cc' ((todo++more).flatMap fV)::rowC 79 3 (some ⟨g2,0,none⟩) (sl.length+1) cap ((insF z sl).flatMap fV)::X3'::X4'::M)→C5 (.slice (some ⟨g2,0,none⟩) (sl.length+1) cap) (.slice (some a') (todo++more).length cc') w') :
  top_canon_closure.b8 R C5 (.pointer (some ⟨cb,0,none⟩)) (.slice As sl.length cs) (.slice (some a) (todo.length+1) cc) w:=by
 obtain ⟨p1,p2,p3,p4,p5⟩:=st.qAt 1 rfl
 have k0:=p5 0 _ rfl
 have k1:=p5 1 _ rfl
 have k2:=p5 2 _ rfl
 obtain ⟨qb,qo,sp⟩:=a
 simp only at p4 k0 k1 k2
 subst p4
 simp only [Nat.add_zero] at k0
 have s1:=st.qTail' 1 rfl (x:=fV z) (r:=todo.flatMap fV) rfl
 have s2:=(s1.alloc #[.int .i64 z.1.1,.int .i64 z.1.2,.int .i64 z.2] 79).swapEnd 3 (by simp)
 have hcc:1≤cc:=by omega
 have hle1:(1:Int)≤(todo.length:Int)+1:=by omega
 have ea:(if cc=1 then some (⟨qb,qo,none⟩:Addr) else some ⟨qb,qo+3,none⟩)=some (if cc=1 then (⟨qb,qo,none⟩:Addr) else ⟨qb,qo+3,none⟩):=by split <;> rfl
 have hnew0:=alloc_cells w [.int .i64 z.1.1,.int .i64 z.1.2,.int .i64 z.2] 79 rfl
 unfold top_canon_closure.b8
 simp -dsimp [go_sem,k0,k1,k2,hcc,hle1,ea]
 generalize (if cc=1 then (⟨qb,qo,none⟩:Addr) else ⟨qb,qo+3,none⟩)=a1 at s2 ⊢
 have s2:St noB W (w.alloc (.cells #[.int .i64 z.1.1,.int .i64 z.1.2,.int .i64 z.2] 79)) (canB g A1 A2 A3 A4 c1 c2 c3 c4 bb cb (left+1)::qC 3 a1 todo.length (cc-1) (todo.flatMap fV)::rowC 79 3 As sl.length cs (sl.flatMap fV)::boxC w.heap.size 79 (fV z)::X4::M):=s2
 clear hnew0 k0 k1 k2 p5 s1 st p1
 generalize cc-1=cc1 at s2 ⊢
 generalize w.alloc (.cells #[.int .i64 z.1.1,.int .i64 z.1.2,.int .i64 z.2] 79)=w1 at s2 ⊢
 generalize w.heap.size=ab at s2 ⊢
 have y2:=(s2.box 3 rfl).1
 simp [boxAt,fV] at y2
 have hat:=fl_at1 s2 2 rfl
 refine CALL_of (with_ct hat (Nat.le_refl _) (by omega) hsrt z) ?_
 rintro v w2 (⟨hin,rfl,hc2⟩ | ⟨hin,g2,cap,rfl,sw⟩)
 ·have s3:=s2.old hc2
  unfold top_canon_closure.b8_5
  simp -dsimp [go_sem]
  exact hold w2 a1 cc1 _ _ hin s3
 ·have s3:=(s2.seq sw).swapEnd 2 (by simp)
  have s3:St noB W w2 (canB g A1 A2 A3 A4 c1 c2 c3 c4 bb cb (left+1)::qC 3 a1 todo.length cc1 (todo.flatMap fV)::rowC 79 3 (some ⟨g2,0,none⟩) (sl.length+1) cap ((insF z sl).flatMap fV)::boxC ab 79 (fV z)::X4::M):=s3
  clear y2 s2 sw hat
  have yl:=(s3.box 0 rfl).1
  have fl:=(s3.box 0 rfl).2.1
  simp [boxAt] at yl
  have wl:IntKind.i64.wrap (left:Int)=(left:Int):=IntWalk.i64_in _ (by omega)
  have yb:=(s3.box 3 rfl).1
  simp [boxAt,fV] at yb
  have s4:=(s3.set 0 rfl 6 (.int .i64 left)).old (Chg.refl noB _).drew
  unfold top_canon_closure.b8_5
  simp -dsimp [go_sem]
  unfold top_canon_closure.b8_4
  simp -dsimp [go_sem,yl,fl,wl,yb]
  have s4:St noB W (w2.setCell ⟨cb,6,none⟩ (.int .i64 left)).drew (canB g A1 A2 A3 A4 c1 c2 c3 c4 bb cb left::qC 3 a1 todo.length cc1 (todo.flatMap fV)::rowC 79 3 (some ⟨g2,0,none⟩) (sl.length+1) cap ((insF z sl).flatMap fV)::boxC ab 79 (fV z)::X4::M):=s4
  generalize (w2.setCell ⟨cb,6,none⟩ (.int .i64 left)).drew=w3 at s4 ⊢
  clear yl yb fl s3
  have hgr:∀w',Chg noB W w'→rGram.atN w' B (.agg #[.slice A1 g.terms.length c1,.slice A2 g.nons.length c2,.slice A3 g.levels.length c3,.int .i64 g.start,.slice A4 g.prods.length c4]) g∧B≤w'.heap.size:=fun w' hc =>
   ⟨rGram_below env.gr (hc.below env.hB fun _ _=>id),by have:=hc.size;have:=env.hB;omega⟩
  refine CALL_of (After_ct (hgr w3 s4.chg).1 (hgr w3 s4.chg).2 z.1 ⟨hz.1,hz.2.1⟩) ?_
  rintro _ w4 ⟨rfl,hc4⟩
  have s5:=s4.old hc4
  have y5:=(s5.box 0 rfl).1
  simp [boxAt] at y5
  unfold top_canon_closure.b8_3
  simp -dsimp [go_sem,y5]
  have hTN:g.terms.length+g.nons.length≤1000:=by have:=env.cl.syms.t1;have:=env.cl.syms.n1;omega
  refine CALL_of (IsNon_ct (hgr w4 s5.chg).1 (hgr w4 s5.chg).2 hTN _) ?_
  rintro _ w5 ⟨rfl,hc5⟩
  have s6:=s5.old hc5
  by_cases hno:(g.terms.length:Int)≤aftI g.prods z.1∧aftI g.prods z.1<(g.terms.length:Int)+g.nons.length
  ·rw [decide_eq_true hno]
   simp -dsimp [go_sem]
   obtain ⟨s,hs'⟩:∃s,aft g.prods z.1=some s:=by
    cases h:aft g.prods z.1 with
    | some s=>exact ⟨s,rfl⟩
    | none=>unfold aftI at hno;rw [h] at hno;have:=hno.1;simp at this;omega
   have hai:aftI g.prods z.1=s:=by unfold aftI;rw [hs'];rfl
   rw [hai]
   obtain ⟨pz,hpz⟩:∃p,z.1.1=p:=⟨_,rfl⟩
   obtain ⟨dz,hdz⟩:∃d,z.1.2=d:=⟨_,rfl⟩
   have hpl:pz<g.prods.length:=by rw [←hpz];exact hz.1
   obtain ⟨bp,op,vr,eA,hbB,x1,x2,x3,hr,_⟩:=prods_at env.r4 hpl
   obtain ⟨Ar,cr,rfl,hrl,hrm,_⟩:=slice_form hr
   have x2:=s6.chg.at x2 id
   obtain ⟨rt,er⟩:∃rt,(g.prods[pz]'hpl).2.1=rt:=⟨_,rfl⟩
   have ert:rgt g.prods z.1.1=rt:=by rw [←er,hpz];simp [rgt,hpl]
   rw [er] at x2 hr hrl
   have hdl:dz<rt.length:=by
    unfold aft at hs'
    rw [ert,hdz] at hs'
    exact (List.getElem?_eq_some_iff.1 hs').1
   obtain ⟨br,or',eAr,_⟩:=Go.Px.ints_at hr hdl
   subst eAr
   have y6:=(s6.box 0 rfl).1
   have z6:=(s6.box 3 rfl).1
   simp [boxAt,fV] at y6 z6
   rw [hpz,hdz] at z6
   rw [eA] at y6
   have wd:IntKind.i64.wrap ((dz:Int)+1)=(dz:Int)+1:=IntWalk.i64_in _ (by unfold maxLen at hrm;omega)
   have hd1:dz+1≤rt.length:=hdl
   have hd2:(dz:Int)+1≤rt.length:=by omega
   have hd3:dz+1≤cr:=by omega
   have hd4:(0:Int)≤(dz:Int)+1:=by omega
   unfold top_canon_closure.b8_2
   simp -dsimp [go_sem,y6,z6,hpl,x2,wd,hd1,hd2,hd3,hd4]
   have s7:=s6.old (Chg.refl noB w5).drew
   generalize w5.drew=w6 at s7 ⊢
   have hdr:=Rep.below (slice_from (o':=or'+(dz+1)) hr hd1 (by show _=or'+(dz+1)*1;omega)) (s7.chg.below env.hB fun _ _=>id)
   have hsy:=(env.cl.syms' (g.prods[pz]'hpl) (List.getElem_mem hpl)).2
   rw [er] at hsy
   have hnlc:null.length≤g.nons.length:=by rw [env.nl];exact Nat.le_refl _
   have hT:=env.cl.syms.t1
   have hN:=env.cl.syms.n1
   have hct:=Of_ct (W:=W) (w:=w6) s7.chg env.bg hdr (hgr w6 s7.chg).2 hnlc env.hc hT (by rw [env.nl];omega) (fun x hx=>by have:=hsy x (List.mem_of_mem_drop hx);rw [env.hl,env.nl];omega)
   rw [env.nl] at *
   refine CALL_of hct ?_
   rintro _ w7 ⟨o,out,rfl,hol,hou,so⟩
   have s8:=(s7.seq so).swapEnd 4 (by simp)
   have s8:St noB W w7 (canB g A1 A2 A3 A4 c1 c2 c3 c4 bb cb left::qC 3 a1 todo.length cc1 (todo.flatMap fV)::rowC 79 3 (some ⟨g2,0,none⟩) (sl.length+1) cap ((insF z sl).flatMap fV)::boxC ab 79 (fV z)::rowC 4 1 (some ⟨o,0,none⟩) g.terms.length g.terms.length (boolV out)::M):=s8
   unfold top_canon_closure.b8_1
   simp -dsimp [go_sem]
   refine app_prods env (kc:=0) (kq:=1) (ko:=4) (kb:=3) (z:=z) (n0:=0) (left:=left) rfl rfl rfl rfl (by decide) (by decide) (by decide) s8 hol (by omega) ?_
   intro w8 a' cc' s9
   have hdrop:(rgt g.prods z.1.1).drop (z.1.2+1)=rt.drop (dz+1):=by rw [ert,hdz]
   have hmo:=succ_more env hz hs' (out:=out) (fun u hu=>by rw [hdrop];exact hou u hu)
   rw [hdrop] at hmo
   refine hnew w8 a' cc' g2 cap _ _ _ hin hmo more_ok ?_ s9
   have h1:=moreP_len g.prods s g.terms.length g.prods.length (fun u=>out.getD u false || ((rt.drop (dz+1)).all (vanS g.terms.length null) && decide (u=z.2)))
   have h2:g.prods.length*g.terms.length≤97*65:=Nat.mul_le_mul env.cl.prods.c1 hT
   omega
  ·rw [decide_eq_false hno]
   simp -dsimp [go_sem]
   have:=hnew w5 a1 cc1 g2 cap [] _ _ hin (fun z'=>⟨fun h=>absurd h List.not_mem_nil,fun h=>absurd h (succ_none env.cl hno)⟩) (fun z' h=>absurd h List.not_mem_nil) (by simp) (by rw [List.append_nil];exact s6)
   rw [List.append_nil] at this
   exact this
end
end Go.Proofs.Ytmoepnfobnpdiaa

/-
  The canonical collection: closure, whole.
-/
namespace Go.Proofs.Ytmoepnfobnpdiaa
open Go.Px Go.Px.Scan Go.Px.Cn Go.RowKit
attribute [-go_sem] Builtin.append_ top_canon_closure.b3 top_canon_closure.b8_1 top_canon_closure.b8_2 top_canon_closure.b8_3 top_canon_closure.b8_4 top_canon_closure.b8_5 top_canon_closure.b8 top_canon_closure.b25 top_canon_closure.b24_1
section
variable {W w:World} {B:Nat} {g:Gr} {A1 A2 A3 A4:Option Addr} {c1 c2 c3 c4 bb mN mH cH:Nat} {ga:Nat→Nat} {null:List Bool} {hs:List (List Bool)}
theorem insF_len {a:It1} {s:List It1}:(insF a s).length=s.length+1:=by
 unfold insF
 rw [List.length_append,List.length_cons]
 have:∀(p:It1→Bool) (l:List It1),(l.filter p).length+(l.filter fun z => ! p z).length=l.length:=fun p l=>by
  induction l with
  | nil=>rfl
  | cons x l ih=>cases h:p x <;> simp [h] <;> omega
 have h:=this (fun z=>decide (fLt z a)) s
 have e:s.filter (fun z=>decide (¬fLt z a))=s.filter fun z => !decide (fLt z a):=by
  congr 1;funext z;simp
 rw [e]
 omega
theorem cclosure_ct (env:CanEnv W B g A1 A2 A3 A4 c1 c2 c3 c4 bb mN mH cH ga null hs) {M:List Ch} {cb left0:Nat} {a0:Addr} {cc0:Nat} {l0:List It1} {X2 X3 X4:Ch}
  (st:St noB W w (canB g A1 A2 A3 A4 c1 c2 c3 c4 bb cb left0::qC 3 a0 l0.length cc0 (l0.flatMap fV)::X2::X3::X4::M)) (hl0:left0≤20000) (hlen:l0.length≤1000000) (hok:∀z∈l0,ItOk g z) :
  Ct Try.prog top_canon_closure.id #[.pointer (some ⟨cb,0,none⟩),.slice (some a0) l0.length cc0] w fun v w'=>∃(left':Nat) (A:Option Addr) (c:Nat) (r:List It1),v = .slice A r.length c∧left'≤left0∧r.Pairwise fLt∧(∀z∈r,ItOk g z)∧r.length+left'≤left0∧(0<left'→∀z,z∈r↔Cl1 g.prods (FI g.terms.length null hs) (·∈l0) z) ∧
   ∃X1 X3 X4,St noB W w' (canB g A1 A2 A3 A4 c1 c2 c3 c4 bb cb left'::X1::rowC 79 3 A r.length c (r.flatMap fV)::X3::X4::M):=by
 refine top_canon_closure.ct fun R hR=>?_
 have s0:=(st.nilRow 79 3).swapEnd 2 (by simp)
 have s0:St noB W w (canB g A1 A2 A3 A4 c1 c2 c3 c4 bb cb left0::qC 3 a0 l0.length cc0 (l0.flatMap fV)::rowC 79 3 none 0 0 []::X3::X4::M):=s0
 unfold top_canon_closure.run
 simp -dsimp [go_sem]
 let J:Value→Value→World→Nat→Prop:=fun x y w' f=>∃(left:Nat) (s todo:List It1) (a:Addr) (cc:Nat) (As:Option Addr) (cs:Nat),x = .slice As s.length cs∧y = .slice (some a) todo.length cc∧ClI1 g.prods (FI g.terms.length null hs) l0 s todo∧(∀z∈s,ItOk g z)∧(∀z∈todo,ItOk g z)∧s.length+left≤left0∧todo.length+left*6305≤l0.length+left0*6305 ∧
  (∃X3 X4,St noB W w' (canB g A1 A2 A3 A4 c1 c2 c3 c4 bb cb left::qC 3 a todo.length cc (todo.flatMap fV)::rowC 79 3 As s.length cs (s.flatMap fV)::X3::X4::M))∧f=left*6306+todo.length
 refine top_canon_closure.l5_intro _ _ _ _ _ (fun x y w'=>∃f,J x y w' f) (fun x y w'=>muOf (J x y) w') ⟨_,left0,[],l0,a0,cc0,none,0,rfl,rfl,ClI1.start l0,by simp,hok,by simp,by omega,⟨_,_,s0⟩,rfl⟩ ?_
 rintro x5 y5 w1 hJ C hC
 have hJm:=muOf_at hJ
 have hfin:∀x6 y6 w6 f,J x6 y6 w6 f→f<muOf (J x5 y5) w1→C x6 y6 w6:=fun x6 y6 w6 f h1 h2=>hC _ _ _ ⟨f,h1⟩ (Nat.lt_of_le_of_lt (muOf_le h1) h2)
 obtain ⟨left,s,todo,a,cc,As,cs,rfl,rfl,hcl,hs,htd,hsl,htl,⟨X3',X4',s1⟩,hf⟩:=hJm
 rw [hf] at hfin
 clear hf hC hJ s0 st
 have hret:∀w',(0<left→todo=[])→St noB W w' (canB g A1 A2 A3 A4 c1 c2 c3 c4 bb cb left::qC 3 a todo.length cc (todo.flatMap fV)::rowC 79 3 As s.length cs (s.flatMap fV)::X3'::X4'::M)→top_canon_closure.b3 R (.slice As s.length cs) w':=by
  intro w' h1 h2
  unfold top_canon_closure.b3
  refine hR _ _ ⟨left,As,cs,s,rfl,by omega,hcl.srt,hs,hsl,fun hp z=>?_,_,_,_,h2⟩
  have:=h1 hp
  subst this
  exact hcl.fin z
 simp -dsimp [go_sem]
 refine SPL_intro (fun p1=>?_) (fun p1=>?_) <;> simp at p1
 ·have y1:=(s1.box 0 rfl).1
  simp [boxAt] at y1
  unfold top_canon_closure.b24_1
  simp -dsimp [go_sem,y1]
  unfold top_canon_closure.b25
  refine SPL_intro (fun p2=>?_) (fun p2=>?_) <;> simp at p2
  ·obtain ⟨z,r,rfl⟩:=List.exists_cons_of_ne_nil (List.length_pos_iff.1 p1)
   obtain ⟨left,rfl⟩:∃l,left=l+1:=⟨left-1,by omega⟩
   have hzr:=htd z (by simp)
   have hrr:∀z∈r,ItOk g z:=fun y hy=>htd y (by simp [hy])
   have s2:St noB W w1 (canB g A1 A2 A3 A4 c1 c2 c3 c4 bb cb (left+1)::qC 3 a (r.length+1) cc (fV z++r.flatMap fV)::rowC 79 3 As s.length cs (s.flatMap fV)::X3'::X4'::M):=s1
   have hlr:(z::r).length=r.length+1:=rfl
   rw [hlr] at htl hfin ⊢
   refine cl_step env s2 (by omega) (by omega) (by omega) hzr hcl.srt ?_ ?_
   ·intro w' a' cc' X5 X6 hin s3
    exact hfin _ _ _ _ ⟨left+1,s,r,a',cc',As,cs,rfl,rfl,hcl.old hin,hs,hrr,hsl,by omega,⟨_,_,s3⟩,rfl⟩ (by omega)
   ·intro w' a' cc' g2 cap more X5 X6 hin hmo hmok hml s3
    have hi:=insF_len (a:=z) (s:=s)
    refine hfin _ _ _ _ ⟨left,insF z s,r++more,a',cc',some ⟨g2,0,none⟩,cap,by rw [hi],rfl,hcl.new hin hmo,fun y hy=>?_,fun y hy=>?_,by omega,by rw [List.length_append];omega,⟨_,_,by rw [hi];exact s3⟩,rfl⟩ (by rw [List.length_append];omega)
    ·rcases insF_mem.1 hy with rfl | hy
     ·exact hzr
     ·exact hs y hy
    ·rcases List.mem_append.1 hy with hy | hy
     ·exact hrr y hy
     ·exact hmok y hy
  ·exact hret _ (fun h=>absurd h (by omega)) s1
 ·unfold top_canon_closure.b25
  simp -dsimp [go_sem]
  exact hret _ (fun _=>p1) s1
end
end Go.Proofs.Ytmoepnfobnpdiaa

/-
  The library's sort of numbers, laid at this program: written by the kit's command, printed.
-/
namespace Go.Proofs.Ytmoepnfobnpdiaa
open Go.Proofs Go.Shelf
def sortInt_ren:Go.Shelf.Ren:=⟨fun | 189=>15 | 125=>33 | 257=>32 | 128=>69 | 129=>70 | 294=>60 | 295=>61 | 296=>62 | 297=>63 | 298=>64 | 299=>65 | 216=>66 | 300=>67 | 301=>68 | 328=>83 | 329=>84 | 330=>85 | 331=>86 | 332=>87 | 215=>72 | 343=>97 | n=>n,fun | 28=>24 | 3=>3 | 46=>93 | 0=>0 | 51=>128 | 53=>130 | 4=>4 | 183=>120 | 182=>119 | 131=>125 | 5=>5 | 9=>9 | 218=>139 | 222=>143 | 228=>151 | 229=>152 | n=>n,fun | n=>n⟩
theorem sortInt:Go.Proofs.Lays.n189 Try.prog sortInt_ren where
 mixed:=by kernel_rfl
 f125:=Try.func33.trans (congrArg some (by kernel_rfl))
 f128:=Try.func69.trans (congrArg some (by kernel_rfl))
 f129:=Try.func70.trans (congrArg some (by kernel_rfl))
 f189:=Try.func15.trans (congrArg some (by kernel_rfl))
 f215:=Try.func72.trans (congrArg some (by kernel_rfl))
 f216:=Try.func66.trans (congrArg some (by kernel_rfl))
 f257:=Try.func32.trans (congrArg some (by kernel_rfl))
 f294:=Try.func60.trans (congrArg some (by kernel_rfl))
 f295:=Try.func61.trans (congrArg some (by kernel_rfl))
 f296:=Try.func62.trans (congrArg some (by kernel_rfl))
 f297:=Try.func63.trans (congrArg some (by kernel_rfl))
 f298:=Try.func64.trans (congrArg some (by kernel_rfl))
 f299:=Try.func65.trans (congrArg some (by kernel_rfl))
 f300:=Try.func67.trans (congrArg some (by kernel_rfl))
 f301:=Try.func68.trans (congrArg some (by kernel_rfl))
 f328:=Try.func83.trans (congrArg some (by kernel_rfl))
 f329:=Try.func84.trans (congrArg some (by kernel_rfl))
 f330:=Try.func85.trans (congrArg some (by kernel_rfl))
 f331:=Try.func86.trans (congrArg some (by kernel_rfl))
 f332:=Try.func87.trans (congrArg some (by kernel_rfl))
 f343:=Try.func97.trans (congrArg some (by kernel_rfl))
 t0:=Try.underlying0
 a0:=Try.isAgg0
 z0:=Try.sizeOf0
 v0:=Try.zeroValue0
 t3:=Try.underlying3
 a3:=Try.isAgg3
 z3:=Try.sizeOf3
 v3:=Try.zeroValue3
 t4:=Try.underlying4
 a4:=Try.isAgg4
 z4:=Try.sizeOf4
 v4:=Try.zeroValue4
 t5:=Try.underlying5
 a5:=Try.isAgg5
 z5:=Try.sizeOf5
 v5:=Try.zeroValue5
 t9:=Try.underlying9
 a9:=Try.isAgg9
 z9:=Try.sizeOf9
 v9:=Try.zeroValue9
 t28:=Try.underlying24
 a28:=Try.isAgg24
 z28:=Try.sizeOf24
 v28:=Try.zeroValue24
 t46:=Try.underlying93
 a46:=Try.isAgg93
 z46:=Try.sizeOf93
 v46:=Try.zeroValue93
 t51:=Try.underlying128
 a51:=Try.isAgg128
 z51:=Try.sizeOf128
 v51:=Try.zeroValue128
 t53:=Try.underlying130
 a53:=Try.isAgg130
 z53:=Try.sizeOf130
 v53:=Try.zeroValue130
 t131:=Try.underlying125
 a131:=Try.isAgg125
 z131:=Try.sizeOf125
 v131:=Try.zeroValue125
 t182:=Try.underlying119
 a182:=Try.isAgg119
 z182:=Try.sizeOf119
 v182:=Try.zeroValue119
 t183:=Try.underlying120
 a183:=Try.isAgg120
 z183:=Try.sizeOf120
 v183:=Try.zeroValue120
 t218:=Try.underlying139
 a218:=Try.isAgg139
 z218:=Try.sizeOf139
 v218:=Try.zeroValue139
 t222:=Try.underlying143
 a222:=Try.isAgg143
 z222:=Try.sizeOf143
 v222:=Try.zeroValue143
 t228:=Try.underlying151
 a228:=Try.isAgg151
 z228:=Try.sizeOf151
 v228:=Try.zeroValue151
 t229:=Try.underlying152
 a229:=Try.isAgg152
 z229:=Try.sizeOf152
 v229:=Try.zeroValue152

end Go.Proofs.Ytmoepnfobnpdiaa

/-
  slices.Sort of numbers, as a contract over pieces.
-/
namespace Go.Proofs.Ytmoepnfobnpdiaa
open Go.Px Go.Px.Scan Go.Px.Cn Go.RowKit Go.Shelf Go.Lib Go.Sort
def ints (l:List Int):List Value:=l.map fun x=>Value.int .i64 x
theorem SortI_ct {G:Nat→Prop} {W w:World} {L:List Ch} {k c:Nat} {a:Addr} {l:List Int} (s:St G W w L) (hk:L[k]?=some (qC 1 a l.length c (ints l))) (hn:l.length≤1000000) :
  Ct Try.prog slices_Sort_int_int.id #[.slice (some a) l.length c] w fun v w'=>v = .tuple #[]∧∃l':List Int,l'.Perm l∧St G W w' (L.set k (qC 1 a l'.length c (ints l'))):=by
 obtain ⟨F,ho,hF,hs⟩:=s.opn hk
 obtain ⟨h1,h2,h3,h4,h5,h6,h7,h8,h9⟩:=id ho
 obtain ⟨g,o,sp⟩:=a
 simp only at h4 h5 h6 h7 h8 h9
 subst h4
 have hH:Holds (Value.int .i64) w g o l.toArray:=fun j hj=>by
  have hj':j<l.length:=by simpa using hj
  refine ⟨h7 j _ ?_,h9 _⟩
  unfold ints
  rw [List.getElem?_map,List.getElem?_eq_getElem hj']
  have:l.toArray[j]! = l[j]:=by simp [hj']
  rw [this];rfl
 have hcon:=Any.slices_Sort_int sortInt g o c l w hH h6 (by omega)
 refine ⟨enters_of Try.func15 (by kernel_rfl) rfl,?_⟩
 change Calls Try.prog 15 _ _ _ at hcon
 refine hcon.mono fun e w' he=>?_
 obtain ⟨rfl,m,os,rfl⟩:=he
 obtain ⟨l',hl'⟩:∃l',(l.mergeSort fun x y=>decide (x≤y))=l':=⟨_,rfl⟩
 have hp:l'.Perm l:=by rw [←hl'];exact List.mergeSort_perm _ _
 rw [hl']
 have hlen:=hp.length_eq
 have hH2:=holds_putRow (Value.int .i64) (Sort.ahead w m) g o l.toArray l'.toArray (holds_ahead _ _ _ _ _ _ hH) (by simpa using hlen)
 refine ⟨rfl,l',hp,hs _ _ ⟨rfl,rfl,rfl,?_,fun i hi hF'=>?_⟩ ⟨by simp [ints],by omega,h3,rfl,Or.inl h5,?_,fun j u hj=>?_,fun j hj=>?_,fun j=>?_⟩⟩
 ·simp
 ·show (Array.modify w.heap g _++os)[i]?=w.heap[i]?
  rw [Array.getElem?_append_left (by simpa using hi),Array.getElem?_modify,if_neg (fun e:g=i=>hF' (e ▸ h5))]
 ·simp;omega
 ·have hjl:j<l'.length:=by have:=(List.getElem?_eq_some_iff.1 hj).1;simpa [ints] using this
  show (grow _ os).cell? ⟨g,o+j,none⟩=some u
  rw [cell?_grow _ _ _ (by simpa using h6),(hH2 j (by simpa using hjl)).1]
  unfold ints at hj
  rw [List.getElem?_map,List.getElem?_eq_getElem hjl] at hj
  have:l'.toArray[j]! = l'[j]:=by simp [hjl]
  rw [this];exact hj
 ·show ((grow _ os).cell? ⟨g,o+j,none⟩).isSome=true
  rw [cell?_grow _ _ _ (by simpa using h6)]
  by_cases hjl:j<l'.length
  ·rw [(hH2 j (by simpa using hjl)).1];rfl
  ·rw [cell?_putRow_other]
   ·exact h8 j hj
   ·refine Or.inr (Or.inr ?_)
    show o+l'.toArray.size≤o+j
    simp;omega
 ·show (grow _ os).frozen? ⟨g,j,none⟩=false
  rw [frozen?_grow _ _ _ (by simpa using h6),frozen?_putRow]
  exact h9 j
theorem SortN_ct {w:World} {p:Option Addr} {c:Nat}:Ct Try.prog slices_Sort_int_int.id #[.slice p 0 c] w fun v w'=>v = .tuple #[]∧w'=w:=by
 refine ⟨enters_of Try.func15 (by kernel_rfl) rfl,?_⟩
 have hcon:=Any.slices_Sort_int_none sortInt p c w
 change Calls Try.prog 15 _ _ _ at hcon
 refine hcon.mono fun e w' he=>?_
 obtain ⟨rfl,rfl⟩:=he
 exact ⟨rfl,rfl⟩
end Go.Proofs.Ytmoepnfobnpdiaa

/-
  lr0.Build: its tools.
-/
namespace Go.Px
/-- One of several pieces is taken out. -/
theorem St.outof {G:Nat→Prop} {W w:World} {L L':List Ch} (h:St G W w L) (k j:Nat) {c:Ch} (hk:L[k]?=some (Ch.all L')) (hj:L'[j]?=some c):St G W w ((L.set k (Ch.all (L'.set j Ch.emp)))++[c]):=by
 obtain ⟨hc,T,ht,hL⟩:=h
 obtain ⟨T',ht',hL'⟩:=hL k _ hk
 have hkl:=(List.getElem?_eq_some_iff.1 hk).1
 have hjl:=(List.getElem?_eq_some_iff.1 hj).1
 refine ⟨hc,fun i=>if T i=k+1∧T' i=j+1 then L.length+1 else T i,fun i hi=>?_,fun n x hn=>?_⟩
 ·by_cases e:T i=k+1∧T' i=j+1
  ·exact ht i (by omega)
  ·dsimp only at hi;rw [if_neg e] at hi;exact ht i hi
 ·by_cases hnl:n<L.length
  ·rw [List.getElem?_append_left (by simpa using hnl),List.getElem?_set] at hn
   by_cases e1:k=n
   ·subst e1
    rw [if_pos rfl,if_pos hkl] at hn
    injection hn with hn;subst hn
    refine ⟨fun i=>if T' i=j+1 then 0 else T' i,fun i hi=>?_,fun m d hd=>?_⟩
    ·by_cases e2:T' i=j+1
     ·dsimp only at hi;rw [if_pos e2] at hi;exact absurd rfl hi
     ·dsimp only at hi;rw [if_neg e2] at hi
      refine ⟨?_,(ht' i hi).2⟩
      dsimp only
      rw [if_neg (fun h=>e2 h.2)]
      exact (ht' i hi).1
    ·rw [List.getElem?_set] at hd
     by_cases e3:j=m
     ·subst e3
      rw [if_pos rfl,if_pos hjl] at hd
      injection hd with hd;subst hd;trivial
     ·rw [if_neg e3] at hd
      refine d.keep (X:=noB) (hL' m d hd) (Chg.refl _ _) (fun _ _ _=>id) fun i _ e4=>?_
      have e4':T' i=m+1:=e4
      dsimp only;rw [if_neg (by omega)];exact e4
   ·rw [if_neg e1] at hn
    refine x.keep (X:=noB) (hL n x hn) (Chg.refl _ _) (fun _ _ _=>id) fun i _ e=>?_
    have e':T i=n+1:=e
    dsimp only;rw [if_neg (by omega)];exact e
  ·rw [List.getElem?_append_right (by simpa using hnl),List.length_set] at hn
   have hn0:n=L.length:=by
    have:=(List.getElem?_eq_some_iff.1 hn).1;simp at this;omega
   subst hn0
   simp at hn
   subst hn
   refine Ch.keep _ (X:=noB) (hL' j _ hj) (Chg.refl _ _) (fun _ _ _=>id) fun i _ e=>?_
   have e':T' i=j+1:=e
   have h3:=(ht' i (by omega)).1
   dsimp only;rw [if_pos ⟨h3,e'⟩]
/-- A row that is only read. -/
def seeC (a:Option Addr) (xs:List Value):Ch where
 ok w F:=∀j u,xs[j]?=some u→∃g o,a=some ⟨g,o,none⟩∧F g∧g<w.heap.size∧w.cell? ⟨g,o+j,none⟩=some u
 keep h hc hX hF j u hj:=by
  obtain ⟨g,o,e,h1,h2,h3⟩:=h j u hj
  exact ⟨g,o,e,hF g h2 h1,Nat.lt_of_lt_of_le h2 hc.size,(World.cell?_of_block (a:=⟨g,o+j,none⟩) (hc.block g h2 (hX g h2 h1))).trans h3⟩
theorem St.seeAt {G:Nat→Prop} {W w:World} {L:List Ch} (h:St G W w L) (k:Nat) {a:Option Addr} {xs:List Value} (hk:L[k]?=some (seeC a xs)) {j:Nat} {u:Value} (hj:xs[j]?=some u):∃g o,a=some ⟨g,o,none⟩∧w.cell? ⟨g,o+j,none⟩=some u:=by
 obtain ⟨F,ho,_⟩:=h.get hk
 obtain ⟨g,o,e,_,_,h3⟩:=ho j u hj
 exact ⟨g,o,e,h3⟩
theorem q_see {size:Nat} {a:Addr} {n c:Nat} {xs:List Value} {w:World} {F:Nat→Prop} (h:(qC size a n c xs).ok w F):(seeC (some a) xs).ok w F:=by
 obtain ⟨h1,h2,h3,h4,h5,h6,h7,_⟩:=h
 obtain ⟨g,o,sp⟩:=a
 simp only at h4
 subst h4
 exact fun j u hj=>⟨g,o,rfl,h5,h6,h7 j u hj⟩
end Go.Px
namespace Go.Proofs.Ytmoepnfobnpdiaa
open Go.Px Go.Px.Scan Go.Px.Cn Go.RowKit
/-- Numbers that are collected are sorted. -/
theorem SortR_ct {G:Nat→Prop} {W w:World} {L:List Ch} {k c:Nat} {a:Option Addr} {l:List Int} (s:St G W w L) (hk:L[k]?=some (rowC 3 1 a l.length c (ints l))) (hn:l.length≤1000000) :
  Ct Try.prog slices_Sort_int_int.id #[.slice a l.length c] w fun v w'=>v = .tuple #[]∧∃l':List Int,l'.Perm l∧St G W w' (L.set k (seeC a (ints l'))):=by
 have hkl:=(List.getElem?_eq_some_iff.1 hk).1
 cases l with
 | nil =>
  refine (SortN_ct).mono fun v w'=>?_
  rintro ⟨rfl,rfl⟩
  exact ⟨rfl,[],List.Perm.refl _,s.turn hk fun F _ j u hj=>by simp [ints] at hj⟩
 | cons x l =>
  obtain ⟨g,rfl,_⟩:=s.rowAt k hk (j:=0) (by simp [ints])
  have s1:=s.turn hk (d:=qC 1 ⟨g,0,none⟩ (x::l).length c (ints (x::l))) fun F h=>row_q h
  refine (SortI_ct s1 (List.getElem?_set_self hkl) hn).mono fun v w'=>?_
  rintro ⟨rfl,l',hp,s2⟩
  rw [List.set_set] at s2
  refine ⟨rfl,l',hp,?_⟩
  have:=s2.turn (k:=k) (List.getElem?_set_self hkl) (d:=seeC (some ⟨g,0,none⟩) (ints l')) fun F h=>q_see h
  rw [List.set_set] at this
  exact this
theorem mKeys:∀key kl,keyOf Try.prog 3 key=some kl→∃a:Int,key=kInt.val a∧kl=kInt.lit a∧kInt.good a:=by
 intro key kl h
 obtain ⟨x,rfl,rfl,hw⟩:=Maps.keyOf_int_inv Try.underlying3 h
 refine ⟨x,rfl,rfl,?_⟩
 have hm:IntKind.i64.min = -9223372036854775808:=by decide
 simp [Lit.wf,hm] at hw
 show inI64 x
 unfold inI64
 omega
end Go.Proofs.Ytmoepnfobnpdiaa

/-
  lr0.Build: the edges of a state.
-/
namespace Go.Px.Cn
open Go.Px
def ksOf (K:List SR):List (List It):=K.map fun x=>x.2.2.1
/-- The rows of kernels that are still there. -/
def leftE (E:List (Ent Int It)) (done:List Int):List Ch:=E.map fun x=>if x.1∈done then Ch.emp else rowC 57 2 x.2.1 x.2.2.2.length x.2.2.1 (x.2.2.2.flatMap itV)
theorem leftE_nil (E:List (Ent Int It)):leftE E []=rowsE 57 2 itV E:=by
 unfold leftE rowsE
 simp
theorem leftE_set {E:List (Ent Int It)} (hn:(E.map (·.1)).Nodup) {j:Nat} {x:Ent Int It} (h:E[j]?=some x) (done:List Int):(leftE E done).set j Ch.emp=leftE E (done++[x.1]):=by
 have hjl:=(List.getElem?_eq_some_iff.1 h).1
 refine List.ext_getElem? fun i=>?_
 unfold leftE
 rw [List.getElem?_set,List.getElem?_map,List.getElem?_map,List.length_map]
 by_cases e:j=i
 ·subst e
  rw [if_pos rfl,if_pos hjl,h]
  simp
 ·rw [if_neg e]
  cases hi:E[i]? with
  | none=>rfl
  | some y =>
   have hil:=(List.getElem?_eq_some_iff.1 hi).1
   have hne:y.1≠x.1:=fun e2=>by
    have h1:=(List.pairwise_iff_getElem.1 hn)
    rcases Nat.lt_or_gt_of_ne e with h2 | h2
    ·have:=h1 j i (by simpa using hjl) (by simpa using hil) h2
     simp only [List.getElem_map] at this
     rw [(List.getElem?_eq_some_iff.1 h).2,(List.getElem?_eq_some_iff.1 hi).2] at this
     exact this e2.symm
    ·have:=h1 i j (by simpa using hil) (by simpa using hjl) h2
     simp only [List.getElem_map] at this
     rw [(List.getElem?_eq_some_iff.1 h).2,(List.getElem?_eq_some_iff.1 hi).2] at this
     exact this e2
   simp only [Option.map_some]
   congr 1
   by_cases h3:y.1∈done
   ·rw [if_pos h3,if_pos (by simp [h3])]
   ·rw [if_neg h3,if_neg (by simp [h3,hne])]
/-- What holds of the table while it is made. -/
structure KOk (P:Prs) (K:List SR) (i:Nat):Prop where
 bld:BldI P (ksOf K) i
 len:K.length≤256
 ne:∀x∈K,x.2.2.1≠[]
theorem KOk.sml {P:Prs} {K:List SR} {i:Nat} (h:KOk P K i) (hP:P.length≤97):∀x∈K,Sml x.2.2.1:=by
 intro x hx y hy
 obtain ⟨j,hj⟩:=List.mem_iff_getElem?.1 hx
 have hjl:=(List.getElem?_eq_some_iff.1 hj).1
 have hk:(ksOf K)[j]?=some x.2.2.1:=by unfold ksOf;rw [List.getElem?_map,hj];rfl
 have h1:=h.bld.val _ (List.mem_of_getElem? hk) y hy
 have h2:=h.bld.dot j _ hk y hy
 have:=h.len
 omega
end Go.Px.Cn
namespace Go.Proofs.Ytmoepnfobnpdiaa
open Go.Px Go.Px.Scan Go.Px.Cn Go.RowKit
attribute [-go_sem] Builtin.append_ lr0_Build.b15 lr0_Build.b19_1 lr0_Build.b19_2 lr0_Build.b19_3 lr0_Build.b19
theorem uEdges:Try.prog.underlying 46=some (.slice 63):=Try.underlying46
theorem iEdge:(Try.prog.info? 63).map (fun i=>(i.zero,i.size,i.bytes))=some (some (.agg #[.int .i64 0,.int .i64 0]),2,16):=by kernel_rfl
theorem bEdge (x y:Int) (w:World):(Instr.build 63 #[(0,.int .i64 x),(1,.int .i64 y)]).run Try.prog w = .ok (.agg #[.int .i64 x,.int .i64 y]) w:=by simp [go_sem]
theorem bAut (w:World):(Instr.build 30 #[]).run Try.prog w = .ok (.agg #[.slice none 0 0,.int .i64 0,.int .i64 0]) w:=by simp [go_sem]
attribute [go_sem ↓] bEdge bAut
def rbC (rb:Nat):Ch:=boxC rb 30 [.slice none 0 0,.int .i64 0,.int .i64 0]
/-- The pieces while a state's edges are laid. -/
def edL (rb:Nat) (vk:Value) (n:Nat) (E:List (Ent Int It)) (done:List Int) (sy:Option Addr) (S:List Int) (ae:Option Addr) (ne ce:Nat) (ed:List Value):List Ch :=
 [rbC rb,mapVC Try.prog kInt 3 vk n (fE E),Ch.all (leftE E done),seeC sy (ints S),rowC 63 2 ae ne ce ed]
theorem edges_loop {G:Nat→Prop} {W w:World} {tb rb i m n cs:Nat} {Ast:Option Addr} {cst:Nat} {vat vk:Value} {asked:Int} {K0:List SR} {E:List (Ent Int It)} {sy:Option Addr} {S:List Int} {P:Prs} {l0 r:List It}
  {R:Ending→World→Prop} {C6:Value→World→Prop}
  (s:St G W w (tabL Try.prog tb Ast cst vat m asked K0++edL rb vk n E [] sy S none 0 0 [])) (hP:P.length≤97) (hK:KOk P K0 i) (hl0:(ksOf K0)[i]?=some l0) (hE:(E.map (·.1)).Nodup) (hvE:∀a,vE E a=kerL P r a) (hkE:∀a,a∈E.map (·.1)↔kerL P r a≠[])
  (hr:∀x,x∈r↔Cl0 P (·∈l0) x) (hrs:r.Pairwise itLt) (hrl:r.length≤200000) (hS:S.Nodup) (hSk:∀a,a∈S↔a∈E.map (·.1)) (hSi:∀a∈S,inI64 a) (hm:m≤30000*i+1) (hi:i≤300) (hSl:S.length≤30000)
  (hbig:∀w',Chg G W w'→R (.returned (.tuple #[.agg #[.slice none 0 0,.int .i64 0,.int .i64 0],.int .i64 11])) w')
  (hgo:∀w' Ast' cst' m' asked' K' ae ne ce ed,m'≤m+S.length→KOk P K' i→(∃t,K'=K0++t)→(∀a∈S,kerL P r a∈ksOf K')→St G W w' (tabL Try.prog tb Ast' cst' vat m' asked' K'++edL rb vk n E S sy S ae ne ce ed)→lr0_Build.b15 R C6 (.pointer (some ⟨tb,0,none⟩)) (.int .i64 i) (.slice ae ne ce) w') :
  lr0_Build.l18 R C6 (.pointer (some ⟨rb,0,none⟩)) (.pointer (some ⟨tb,0,none⟩)) (.int .i64 i) vk (.slice none 0 0) (.slice sy S.length cs) (.int .i64 S.length) (.int .i64 0) w:=by
 refine lr0_Build.l18_intro _ _ _ _ _ _ _ _ _ _ _ (fun y z w'=>∃(t:Nat) (Ast':Option Addr) (cst' m':Nat) (asked':Int) (K':List SR) (ae:Option Addr) (ne ce:Nat) (ed:List Value),y = .slice ae ne ce∧z = .int .i64 t∧t≤S.length∧ne≤t∧m'≤m+t∧KOk P K' i∧(∃q,K'=K0++q)∧(∀a∈S.take t,kerL P r a∈ksOf K')∧St G W w' (tabL Try.prog tb Ast' cst' vat m' asked' K'++edL rb vk n E (S.take t) sy S ae ne ce ed)) (fun _ z _=>S.length-iv z)
  ⟨0,Ast,cst,m,asked,K0,none,0,0,[],rfl,rfl,by omega,by omega,by omega,hK,⟨[],by simp⟩,by simp,s⟩ ?_
 rintro _ _ w1 ⟨t,Ast1,cst1,m1,asked1,K1,ae,ne,ce,ed,rfl,rfl,ht,hne,hm1,hK1,⟨q1,hq1⟩,hdone,s1⟩ C hC
 have wt:IntKind.i64.wrap ((t:Int)+1)=(t:Int)+1:=IntWalk.i64_in _ (by omega)
 unfold lr0_Build.b19
 simp -dsimp [go_sem]
 refine SPL_intro (fun p1=>?_) (fun p1=>?_) <;> simp at p1
 ·obtain ⟨a,hae⟩:∃a,S[t]=a:=⟨_,rfl⟩
  have haS:a∈S:=hae ▸ List.getElem_mem p1
  have haK:=(hSk a).1 haS
  have et:S.take (t+1)=S.take t++[a]:=by rw [List.take_succ_eq_append_getElem p1,hae]
  have hand:a∉S.take t:=fun h=>by
   have:=hS.sublist (List.take_sublist (t+1) S)
   rw [et,List.nodup_append] at this
   exact this.2.2 a h a (by simp) rfl
  obtain ⟨gs,os,hgs,cs1⟩:=s1.seeAt 7 rfl (j:=t) (u := .int .i64 a) (by unfold ints;rw [List.getElem?_map,List.getElem?_eq_getElem p1,hae];rfl)
  subst hgs
  have hl1:(Instr.lookup 58 vk (.int .i64 a) false).run Try.prog w1=_:=s1.mapVGet mKer 5 rfl a (hSi a haS)
  obtain ⟨x,hx,hxa⟩:=List.mem_map.1 haK
  obtain ⟨j,hj⟩:=List.mem_iff_getElem?.1 hx
  have hfind:=find_of hE hj hxa
  have hf:fE E a=some (valE x):=by unfold fE;rw [hfind];rfl
  have hxv:x.2.2.2=kerL P r a:=by rw [←hvE];unfold vE;rw [hfind];rfl
  rw [hf] at hl1
  simp only [Option.getD_some,valE] at hl1
  have hkne:=(hkE a).1 haK
  have hklen:(kerL P r a).length≤200000:=Nat.le_trans (kerL_len P r a) hrl
  have hksr:=kerL_srt (P:=P) hrs a
  have hknd:(kerL P r a).Nodup:=hksr.imp fun {x y} h e=>by subst e;exact itLt_ir _ h
  have hkr:(leftE E (S.take t))[j]?=some (rowC 57 2 x.2.1 x.2.2.2.length x.2.2.1 (x.2.2.2.flatMap itV)):=by
   unfold leftE
   rw [List.getElem?_map,hj]
   simp only [Option.map_some]
   rw [if_neg (by rw [hxa];exact hand)]
  have s2:=s1.outof 6 j rfl hkr
  rw [leftE_set hE hj,hxa,←et] at s2
  have hpos:0<x.2.2.2.length:=by rw [hxv];exact List.length_pos_iff.2 hkne
  obtain ⟨Fx,hox,_⟩:=s2.get (k:=9) rfl
  obtain ⟨xg,hxg,_⟩:=row_elem hox (fun _ _=>rfl) (by decide) (i:=0) (x:=x.2.2.2[0]) (List.getElem?_eq_getElem hpos)
  obtain ⟨cx,hcx⟩:∃cx,x.2.2.1=cx:=⟨_,rfl⟩
  have s3:=s2.turn (k:=9) rfl (d:=qC 2 ⟨xg,0,none⟩ x.2.2.2.length x.2.2.1 (x.2.2.2.flatMap itV)) fun F h=>by rw [hxg] at h;exact row_q h
  rw [hxv] at s3 hl1 hpos
  rw [hxg] at hl1
  rw [hcx] at s3 hl1
  have s3:St G W w1 (tabL Try.prog tb Ast1 cst1 vat m1 asked1 K1++(edL rb vk n E (S.take (t+1)) (some ⟨gs,os,none⟩) S ae ne ce ed++[qC 2 ⟨xg,0,none⟩ (kerL P r a).length cx ((kerL P r a).flatMap itV)])):=s3
  obtain ⟨ka,hka⟩:∃ka,kerL P r a=ka:=⟨_,rfl⟩
  rw [hka] at s3 hl1 hpos hkne hklen hksr hknd
  unfold lr0_Build.b19_3
  simp -dsimp [go_sem,p1,cs1,hl1]
  refine CALL_of (laid_ct s3 (k:=9) rfl hknd (by omega)) ?_
  rintro _ w2 ⟨rfl,l',hp,hsr,s4⟩
  have hl':l'=ka:=it_ext hsr hksr fun y=>hp.mem_iff
  subst hl'
  have s4:St G W w2 (tabL Try.prog tb Ast1 cst1 vat m1 asked1 K1++(edL rb vk n E (S.take (t+1)) (some ⟨gs,os,none⟩) S ae ne ce ed++[qC 2 ⟨xg,0,none⟩ l'.length l'.length (l'.flatMap itV)])):=s4
  have hgo':∀x,x∈l'↔Go0 P (·∈l0) a x:=fun x=>by rw [←hka];exact kerL_go hr a x
  have hl01:(ksOf K1)[i]?=some l0:=by
   rw [hq1];unfold ksOf at hl0 ⊢
   rw [List.map_append,List.getElem?_append_left (List.getElem?_eq_some_iff.1 hl0).1];exact hl0
  have hl0m:=List.mem_of_getElem? hl01
  have hrv:Val P r:=fun x hx=>((hr x).1 hx).val (hK1.bld.val l0 hl0m)
  have hlv:Val P l':=by rw [←hka];exact kerL_val hrv a
  have hrd:∀x∈r,x.2≤i:=fun x hx=>((hr x).1 hx).dotle (hK1.bld.dot i l0 hl01)
  have hld:∀x∈l',x.2≤i+1:=by rw [←hka];exact kerL_dot hrd a
  have hsml:Sml l':=fun x hx=>by
   have h1:=hlv x hx
   have h2:=hld x hx
   omega
  refine CALL_of (intern_ct s4 (jm:=5) rfl (hK1.sml hP) hK1.ne hK1.bld.nd hsml hkne (by omega) (by omega) (by have:=hK1.len;omega)) ?_
  rintro _ w3 ⟨Ast3,cst3,m3,asked3,K3,hm3,⟨jv,rfl⟩,s5,hcase⟩
  have s5:St G W w3 (tabL Try.prog tb Ast3 cst3 vat m3 asked3 K3++edL rb vk n E (S.take (t+1)) (some ⟨gs,os,none⟩) S ae ne ce ed):=s5.take 9
  have hb3:BldI P (ksOf K3) i∧(∀x∈K3,x.2.2.1≠[])∧(∃q,K3=K0++q)∧(∀b∈S.take (t+1),kerL P r b∈ksOf K3):=by
   rcases hcase with ⟨rfl,y,hy,hyl⟩ | ⟨rfl,hno⟩
   ·refine ⟨hK1.bld,hK1.ne,⟨q1,hq1⟩,fun b hb=>?_⟩
    rw [et] at hb
    rcases List.mem_append.1 hb with hb | hb
    ·exact hdone b hb
    ·rw [List.mem_singleton] at hb;subst hb
     rw [hka]
     exact List.mem_map.2 ⟨y,hy,hyl⟩
   ·have e:ksOf (K1++[(⟨xg,0,none⟩,l'.length,l',Value.slice none 0 0)])=ksOf K1++[l']:=by unfold ksOf;simp
    refine ⟨?_,fun y hy=>?_,⟨q1++[(⟨xg,0,none⟩,l'.length,l',Value.slice none 0 0)],by rw [hq1];simp⟩,fun b hb=>?_⟩
    ·rw [e]
     exact hK1.bld.snoc hl01 hgo' hkne hlv hld hksr fun hm=>by
      obtain ⟨y,hy,hyl⟩:=List.mem_map.1 hm
      exact hno y hy hyl
    ·rcases List.mem_append.1 hy with hy | hy
     ·exact hK1.ne y hy
     ·rw [List.mem_singleton] at hy;subst hy;exact hkne
    ·rw [e]
     rw [et] at hb
     rcases List.mem_append.1 hb with hb | hb
     ·exact List.mem_append_left _ (hdone b hb)
     ·rw [List.mem_singleton] at hb;subst hb
      rw [hka];simp
  have hKl:K3.length≤257:=by
   have:=hK1.len
   rcases hcase with ⟨rfl,_⟩ | ⟨rfl,_⟩
   ·omega
   ·simp;omega
  unfold lr0_Build.b19_2
  simp -dsimp [go_sem]
  refine s5.append1 8 rfl uEdges iEdge rfl (by decide) (news:=[.int .i64 a,.int .i64 jv]) rfl (by simp [Value.oneCell']) (by unfold maxLen;omega) (by unfold maxBytes;omega) ?_
  intro eg cap w4 s6
  have s6:St G W w4 (tabL Try.prog tb Ast3 cst3 vat m3 asked3 K3++edL rb vk n E (S.take (t+1)) (some ⟨gs,os,none⟩) S (some ⟨eg,0,none⟩) (ne+1) cap (ed++[.int .i64 a,.int .i64 jv])):=s6
  have y6:=(s6.box 0 rfl).1.1
  simp -dsimp [go_sem,y6]
  refine SPL_intro (fun p2=>?_) (fun p2=>?_)
  ·have f6:=(s6.box 4 rfl).2.1
   have s7:=(((s6.set 4 rfl 0 (.slice none 0 0)).set 4 rfl 1 (.int .i64 0)).set 4 rfl 2 (.int .i64 0))
   have y7:=(s7.box 4 rfl).1
   have y70:=y7.1
   have y71:=y7.2.1
   have y72:=y7.2.2.1
   unfold lr0_Build.b19_1
   have z6:=(s6.box 4 rfl).1
   have z60:=z6.1
   have z61:=z6.2.1
   have z62:=z6.2.2.1
   simp -dsimp [go_sem,f6,z60,z61,z62]
   exact hbig _ s7.chg
  ·have hle:K3.length≤256:=by
    have:(K3.length:Int)≤256:=by simpa using p2
    omega
   simp -dsimp [go_sem,wt]
   exact hC _ _ _ ⟨t+1,Ast3,cst3,m3,asked3,K3,some ⟨eg,0,none⟩,ne+1,cap,_,rfl,by simp,by omega,by omega,by omega,⟨hb3.1,hle,hb3.2.1⟩,hb3.2.2.1,hb3.2.2.2,s6⟩ (by simp [iv];omega)
 ·have hte:t=S.length:=by omega
  subst hte
  rw [List.take_length] at hdone s1
  exact hgo w1 Ast1 cst1 m1 asked1 K1 ae ne ce ed hm1 hK1 ⟨q1,hq1⟩ hdone s1
end Go.Proofs.Ytmoepnfobnpdiaa

/-
  lr0.Build: a state's round.
-/
namespace Go.Px.Cn
open Go.Px
theorem it_len {l:List It} (hnd:l.Nodup) (h:∀x∈l,x.1<97∧x.2<300):l.length≤29100:=by
 have e:(l.map fun x=>x.1*300+x.2).Nodup:=by
  rw [List.Nodup,List.pairwise_map]
  refine hnd.imp_of_mem fun {a b} ha hb hab e=>hab ?_
  have h1:=h a ha
  have h2:=h b hb
  exact Prod.ext (by omega) (by omega)
 have:=nodup_lt (n:=29100) e fun x hx=>by
  obtain ⟨y,hy,rfl⟩:=List.mem_map.1 hx
  have:=h y hy
  show y.1*300+y.2<29100
  omega
 simpa using this
theorem KOk.kernel {P:Prs} {K:List SR} {i:Nat} (h:KOk P K i) (hP:P.length≤97) {j:Nat} {x:SR} (hj:K[j]?=some x):(ksOf K)[j]?=some x.2.2.1∧R0 P (·∈x.2.2.1)∧Val P x.2.2.1∧x.2.2.1.Pairwise itLt∧x.2.2.1.Nodup∧x.2.2.1.length≤29100∧(∀y∈x.2.2.1,y.2=0→y=(0,0)):=by
 have hk:(ksOf K)[j]?=some x.2.2.1:=by unfold ksOf;rw [List.getElem?_map,hj];rfl
 have hm:=List.mem_of_getElem? hk
 have hs:=h.bld.srt _ hm
 have hnd:x.2.2.1.Nodup:=hs.imp fun {x y} h e=>by subst e;exact itLt_ir _ h
 have hjl:=(List.getElem?_eq_some_iff.1 hj).1
 have hlen:=h.len
 refine ⟨hk,h.bld.r0 _ hm,h.bld.val _ hm,hs,hnd,it_len hnd fun y hy=>?_,fun y hy h0=>?_⟩
 ·have h1:=h.bld.val _ hm y hy
  have h2:=h.bld.dot j _ hk y hy
  omega
 ·rcases (h.bld.r0 _ hm).dots with h1 | h1
  ·exact (h1 y).1 hy
  ·have:=h1 y hy;omega
end Go.Px.Cn
namespace Go.Proofs.Ytmoepnfobnpdiaa
open Go.Px Go.Px.Scan Go.Px.Cn Go.RowKit
def slenV':Value→Nat | .slice _ n _=>n | _=>0
attribute [-go_sem] Builtin.append_ lr0_Build.b15 lr0_Build.b9 lr0_Build.b11 lr0_Build.b20 lr0_Build.b23 lr0_Build.b23_1 lr0_Build.b13 lr0_Build.b16
/-- The keys are collected and sorted. -/
theorem syms_loop {G:Nat→Prop} {W w:World} {L:List Ch} {n i:Nat} {vk:Value} {E:List (Ent Int It)} {RS:List Ch}
  {R:Ending→World→Prop} {C6:Value→World→Prop} {x2 x5:Value}
  (s:St G W w (L++[mapVC Try.prog kInt 3 vk n (fE E),Ch.all RS])) (hE:(E.map (·.1)).Nodup) (hEl:E.length≤30000)
  (hgo:∀w' sy cs (S:List Int),S.Nodup→(∀a,a∈S↔a∈E.map (·.1))→S.length≤30000→St G W w' (L++[mapVC Try.prog kInt 3 vk n (fE E),Ch.all RS,seeC sy (ints S)])→lr0_Build.b16 R C6 x2 x5 (.int .i64 i) vk (.slice sy S.length cs) (.slice none 0 0) w') :
  lr0_Build.b20 R C6 x2 x5 (.int .i64 i) vk (.slice none 0 0) w:=by
 have hk0:(L++[mapVC Try.prog kInt 3 vk n (fE E),Ch.all RS])[L.length]?=some (mapVC Try.prog kInt 3 vk n (fE E)):=by rw [List.getElem?_append_right (Nat.le_refl _),Nat.sub_self];rfl
 obtain ⟨it,cnt,w1,hrun,s1⟩:=s.rngV mKer L.length hk0
 rw [List.set_append_right _ _ (Nat.le_refl _),Nat.sub_self] at s1
 have s1:St G W w1 (L++[rngVC Try.prog kInt 3 vk it n (fE E) cnt (fun a=>(fE E a).isSome),Ch.all RS]):=s1
 unfold lr0_Build.b20
 simp -dsimp [go_sem,hrun]
 have s2:=s1.nilRow 3 1
 rw [List.append_assoc] at s2
 have hkeys:∀a,(fE E a).isSome=true↔a∈E.map (·.1):=fun a=>by
  unfold fE
  rw [Option.isSome_map,List.find?_isSome]
  constructor
  ·rintro ⟨x,hx,he⟩
   exact List.mem_map.2 ⟨x,hx,by simpa using he⟩
  ·intro h
   obtain ⟨x,hx,he⟩:=List.mem_map.1 h
   exact ⟨x,hx,by simpa using he⟩
 refine lr0_Build.l22_intro _ _ _ _ _ _ _ _ _ (fun y w'=>∃(sy:Option Addr) (cs cnt:Nat) (S:List Int) (left:Int→Bool),y = .slice sy S.length cs∧S.Nodup∧(∀a∈S,a∈E.map (·.1))∧(∀a,left a=true↔(a∈E.map (·.1)∧a∉S))∧St G W w' (L++[rngVC Try.prog kInt 3 vk it n (fE E) cnt left,Ch.all RS,rowC 3 1 sy S.length cs (ints S)])) (fun y _=>E.length+1-slenV' y)
  ⟨none,0,cnt,[],_,rfl,by simp,by simp,fun a=>by rw [hkeys];simp,s2⟩ ?_
 rintro _ w2 ⟨sy,cs,cnt2,S,left,rfl,hSn,hSk,hleft,s3⟩ C hC
 have hSl:S.length≤E.length:=by
  have:=Go.Px.Scan.nodup_le (m:=E.map (·.1)) hSn hSk
  simpa using this
 have hk1:(L++[rngVC Try.prog kInt 3 vk it n (fE E) cnt2 left,Ch.all RS,rowC 3 1 sy S.length cs (ints S)])[L.length]?=some (rngVC Try.prog kInt 3 vk it n (fE E) cnt2 left):=by rw [List.getElem?_append_right (Nat.le_refl _),Nat.sub_self];rfl
 unfold lr0_Build.b23
 rcases s3.rngNext mKer L.length hk1 0 mKeys with ⟨h0,h1,h2,s4⟩ | ⟨a,u,cnt',w3,ha,hfa,hgood,hcnt,hr1,hr2,s4⟩
 ·rw [List.set_append_right _ _ (Nat.le_refl _),Nat.sub_self] at s4
  have s4:St G W w2 (L++[mapVC Try.prog kInt 3 vk n (fE E),Ch.all RS,rowC 3 1 sy S.length cs (ints S)]):=s4
  simp -dsimp [go_sem,h2]
  unfold lr0_Build.b13
  have hk2:(L++[mapVC Try.prog kInt 3 vk n (fE E),Ch.all RS,rowC 3 1 sy S.length cs (ints S)])[L.length+2]?=some (rowC 3 1 sy S.length cs (ints S)):=by rw [List.getElem?_append_right (by omega),show L.length+2-L.length=2 by omega];rfl
  refine CALL_of (SortR_ct s4 hk2 (by omega)) ?_
  rintro _ w3 ⟨rfl,S',hp,s5⟩
  rw [List.set_append_right _ _ (by omega),show L.length+2-L.length=2 by omega] at s5
  have hlen:=hp.length_eq
  rw [←hlen]
  refine hgo w3 sy cs S' (hp.nodup_iff.2 hSn) (fun a=>(hp.mem_iff).trans ⟨hSk a,fun h=>?_⟩) (by omega) s5
  refine Classical.byContradiction fun hn=>?_
  have:=(hleft a).2 ⟨h,hn⟩
  rw [h1 a] at this;cases this
 ·have hr1:(Instr.next it false 0).run Try.prog w2 = .ok (.tuple #[.bool true,.int .i64 a,u]) w3:=hr1
  have hr2:(Instr.entry it).run Try.prog w3 = .ok (.tuple #[.int .i64 a,u]) w3:=hr2
  have haS:=(hleft a).1 ha
  have s5:=s4 (fun c=>if c=a then false else left c) (by simp) (fun c hc=>by simp [hc])
  rw [List.set_append_right _ _ (Nat.le_refl _),Nat.sub_self] at s5
  have s5:St G W w3 (L++[rngVC Try.prog kInt 3 vk it n (fE E) cnt' (fun c=>if c=a then false else left c),Ch.all RS,rowC 3 1 sy S.length cs (ints S)]):=s5
  have hk3:(L++[rngVC Try.prog kInt 3 vk it n (fE E) cnt' (fun c=>if c=a then false else left c),Ch.all RS,rowC 3 1 sy S.length cs (ints S)])[L.length+2]?=some (rowC 3 1 sy S.length cs (ints S)):=by rw [List.getElem?_append_right (by omega),show L.length+2-L.length=2 by omega];rfl
  simp -dsimp [go_sem,hr1]
  unfold lr0_Build.b23_1
  simp -dsimp [go_sem,hr2]
  refine s5.append1 (L.length+2) hk3 uInts iInt rfl (by decide) (news:=[.int .i64 a]) rfl (by simp [Value.oneCell']) (by unfold maxLen;omega) (by unfold maxBytes;omega) ?_
  intro gs cap w4 s6
  rw [List.set_append_right _ _ (by omega),show L.length+2-L.length=2 by omega] at s6
  refine hC _ _ ⟨some ⟨gs,0,none⟩,cap,cnt',S++[a],(fun c=>if c=a then false else left c),by simp,?_,fun b hb=>?_,fun b=>?_,?_⟩ ?_
  ·rw [List.nodup_append]
   refine ⟨hSn,by simp,fun x hx y hy=>?_⟩
   rw [List.mem_singleton] at hy;subst hy
   rintro rfl;exact haS.2 hx
  ·rcases List.mem_append.1 hb with hb | hb
   ·exact hSk b hb
   ·rw [List.mem_singleton] at hb;subst hb;exact haS.1
  ·by_cases e:b=a
   ·subst e;simp
   ·simp [e,hleft]
  ·have e:ints (S++[a])=ints S++[.int .i64 a]:=by simp [ints]
   rw [e,List.length_append]
   exact s6
  ·show E.length+1-(S.length+1)<E.length+1-S.length
   omega
end Go.Proofs.Ytmoepnfobnpdiaa

/-
  Valid and Closed.
-/
namespace Go.Proofs.Ytmoepnfobnpdiaa
open Go.Px Go.Px.Scan Go.RowKit
attribute [-go_sem] Builtin.append_

theorem Closed_ct {w:World} {B:Nat} {v:Value} {g:Gr} (h:rGram.atN w B v g) (hB:B≤w.heap.size):Ct Try.prog gram_Closed.id #[v] w fun r w'=>r = .bool (closedB g)∧Chg noB w w':=by
 refine gram_Closed.ct fun R hR=>?_
 obtain ⟨A1,c1,A2,c2,A3,c3,A4,c4,rfl,h1,h2,h3,h4,h5,⟨l1,m1⟩,⟨l2,m2⟩,⟨l3,m3⟩,⟨l4,m4⟩⟩:=(rGram_open h).ex
 have no:∀w',Chg noB w w'→¬ClosedP g→R (.returned (.bool false)) w':=fun w' hc hn=>hR _ _ ⟨by rw [bool_no closedB_iff hn],hc⟩
 unfold gram_Closed.run
 simp -dsimp [go_sem]
 have h0:=(St.refl noB w).alloc #[.slice A1 g.terms.length c1,.slice A2 g.nons.length c2,.slice A3 g.levels.length c3,.int .i64 g.start,.slice A4 g.prods.length c4] 27
 have hb1:=h0.chg.below hB fun _ _=>id
 have hB1:B≤(w.alloc (.cells #[.slice A1 g.terms.length c1,.slice A2 g.nons.length c2,.slice A3 g.levels.length c3,.int .i64 g.start,.slice A4 g.prods.length c4] 27)).heap.size:=by have:=h0.chg.size;omega
 generalize w.heap.size=q at h0 ⊢
 generalize w.alloc (.cells #[.slice A1 g.terms.length c1,.slice A2 g.nons.length c2,.slice A3 g.levels.length c3,.int .i64 g.start,.slice A4 g.prods.length c4] 27)=w1 at h0 hb1 hB1 ⊢
 have k0:=h0.box 0 rfl
 simp [boxAt] at k0
 refine SPL_intro (fun q1=>?_) (fun q1=>?_) <;> simp at q1
 ·simp -dsimp [go_sem]
  exact no _ h0.chg fun hv=>by have:=hv.first;rw [q1] at this;cases this
 have q1':0<g.nons.length:=List.length_pos_iff.2 q1
 obtain ⟨b2,o2,rfl,hb2,d1,d2⟩:=Go.Px.strs_at (Rep.below h2 hb1) q1'
 simp at d1
 simp -dsimp [go_sem,k0,q1',d1]
 have hf:g.nons.head?=some g.nons[0]:=by rw [List.head?_eq_getElem?,List.getElem?_eq_getElem q1']
 refine SPL_intro (fun p1=>?_) (fun p1=>?_) <;> simp at p1
 ·simp -dsimp [go_sem]
  refine no _ h0.chg fun hv=>p1 ?_
  have h9:=hv.first
  rw [hf] at h9
  injection h9 with h9
  rw [h9,ByteArray.toList_eq]
 have hfirst:g.nons.head?=some ⟨#[]⟩:=by
  rw [hf]
  congr 1
  exact bs_ext (by rw [←ByteArray.toList_eq];exact p1)
 simp -dsimp [go_sem,k0]
 refine CALL_of (symbols_ct (rGram_below h hb1) hB1 (a:=1) (by omega)) ?_
 rintro _ w2 ⟨rfl,hc2⟩
 have hst2:=h0.old hc2
 have k2:=hst2.box 0 rfl
 simp [boxAt] at k2
 cases hs:symB g 1 with
 | false =>
  simp -dsimp [go_sem]
  refine no _ hst2.chg fun hv=>?_
  rw [symB_iff.2 hv.syms] at hs;cases hs
 | true =>
  have hsP:=symB_iff.1 hs
  simp -dsimp [go_sem,k2]
  have hb2:=hst2.chg.below (B:=B) (by omega) fun _ _=>id
  have hB2:B≤w2.heap.size:=by have:=hc2.size;omega
  refine CALL_of (productions_ct (rGram_below h hb2) hB2 (a:=1) (by omega) hsP) ?_
  rintro _ w3 ⟨⟨vl,rfl,hl⟩,hc3⟩
  have hst3:=hst2.old hc3
  have k3:=hst3.box 0 rfl
  simp [boxAt] at k3
  cases hp:prodB g 1 with
  | false =>
   simp -dsimp [go_sem,k3]
   refine no _ hst3.chg.drew fun hv=>?_
   rw [prodB_iff.2 hv.prods] at hp;cases hp
  | true =>
   have hpP:=prodB_iff.1 hp
   have hc0:0<g.prods.length:=by have:=hpP.c0;omega
   have hstd:=hst3.old ((Chg.refl noB w3).drew)
   have kd:=hstd.box 0 rfl
   simp [boxAt] at kd
   have hB3:B≤w3.drew.heap.size:=by have:=hc3.size;simp;omega
   obtain ⟨b5,o5,vr,rfl,hb5,f1,f2,f3,fr,i1,i2⟩:=prods_at (Rep.below h5 (hstd.chg.below hB fun _ _=>id)) hc0
   obtain ⟨Ar,cr,rfl,lr,mr,_⟩:=slice_form fr
   simp at f1 f2 f3
   have hph:g.prods.head?=some g.prods[0]:=by rw [List.head?_eq_getElem?,List.getElem?_eq_getElem hc0]
   have fin:∀b:Bool,(b=true↔g.prods[0]=((g.terms.length:Int),[g.start],0))→R (.returned (.bool b)) w3.drew:=fun b hb=>by
    refine hR _ _ ⟨?_,hstd.chg⟩
    congr 1
    refine bool_eq ?_
    rw [closedB_iff,hb]
    constructor
    ·intro e;exact ⟨hfirst,hsP,hpP,by rw [hph,e]⟩
    ·intro hv
     have:=hv.added
     rw [hph] at this
     injection this
   simp -dsimp [go_sem,k3,kd,hc0,f1,f2,f3]
   refine SPL_intro (fun q2=>?_) (fun q2=>?_) <;> simp at q2
   ·simp -dsimp [go_sem,k3,kd,hc0,f1,f2,f3]
    refine SPL_intro (fun q3=>?_) (fun q3=>?_) <;> simp at q3
    ·have q3':0<g.prods[0].2.1.length:=by omega
     obtain ⟨b6,o6,rfl,hb6,e1,e2⟩:=Go.Px.ints_at fr q3'
     simp at e1
     simp -dsimp [go_sem,k3,kd,hc0,f1,f2,f3,q3',e1]
     have hl1:g.prods[0].2.1=[g.prods[0].2.1[0]]:=by
      apply List.ext_getElem?
      intro i
      cases i with
      | zero=>simp [List.getElem?_eq_getElem q3']
      | succ i=>simp;omega
     refine SPL_intro (fun q4=>?_) (fun q4=>?_) <;> simp at q4
     ·simp -dsimp [go_sem,k3,kd,hc0,f1,f2,f3,q3']
      refine fin _ ?_
      rw [beq_iff_eq]
      constructor
      ·intro e
       refine Prod.ext q2 (Prod.ext ?_ e)
       show g.prods[0].2.1=[g.start]
       rw [hl1,q4]
      ·intro e;rw [e]
     ·refine fin false ⟨fun h=>(by cases h),fun e=>?_⟩
      refine absurd ?_ q4
      have e2:g.prods[0].2.1=[g.start]:=by rw [e]
      simp only [e2,List.getElem_cons_zero]
    ·refine fin false ⟨fun h=>(by cases h),fun e=>?_⟩
     rw [e] at q3;simp at q3
   ·refine fin false ⟨fun h=>(by cases h),fun e=>?_⟩
    rw [e] at q2;exact absurd rfl q2
end Go.Proofs.Ytmoepnfobnpdiaa

/-
  lr0.Build.
-/
namespace Go.Proofs.Ytmoepnfobnpdiaa
open Go.Px Go.Px.Scan Go.Px.Cn Go.RowKit
attribute [-go_sem] Builtin.append_ lr0_Build.b15 lr0_Build.b15_1 lr0_Build.b9 lr0_Build.b11 lr0_Build.b20 lr0_Build.b16 lr0_Build.b3 lr0_Build.b3_1 lr0_Build.b7 lr0_Build.b4 lr0_Build.b1_1 lr0_Build.b1_2 lr0_Build.b1_3
theorem ClipE_ct {w:World} {a:Option Addr} {n c:Nat} (h:n≤c):Ct Try.prog slices_Clip_api_Edge_api_Edge.id #[.slice a n c] w fun v w'=>v = .slice a n n∧w=w':=by
 refine slices_Clip_api_Edge_api_Edge.ct fun R hR=>?_
 unfold slices_Clip_api_Edge_api_Edge.run
 cases a with
 | none =>
  simp -dsimp [go_sem,h]
  exact hR _ _ ⟨rfl,rfl⟩
 | some a =>
  simp -dsimp [go_sem,h]
  exact hR _ _ ⟨rfl,rfl⟩
theorem ClipS_ct {w:World} {a:Option Addr} {n c:Nat} (h:n≤c):Ct Try.prog slices_Clip_api_State_api_State.id #[.slice a n c] w fun v w'=>v = .slice a n n∧w=w':=by
 refine slices_Clip_api_State_api_State.ct fun R hR=>?_
 unfold slices_Clip_api_State_api_State.run
 cases a with
 | none =>
  simp -dsimp [go_sem,h]
  exact hR _ _ ⟨rfl,rfl⟩
 | some a =>
  simp -dsimp [go_sem,h]
  exact hR _ _ ⟨rfl,rfl⟩
theorem stV_set {K:List SR} {i:Nat} {x:SR} (h:K[i]?=some x) (e:Value):(K.flatMap stV).set (i*2+1) e=(K.set i (x.1,x.2.1,x.2.2.1,e)).flatMap stV:=by
 induction K generalizing i with
 | nil=>simp at h
 | cons y K ih =>
  match i,h with
  | 0,h=>simp at h;subst h;simp [stV,kerV]
  | i+1,h =>
   have h:K[i]?=some x:=by simpa using h
   rw [List.flatMap_cons,List.set_cons_succ,List.flatMap_cons,←ih h,List.set_append_right _ _ (by simp [stV];omega)]
   congr 1
   simp [stV]
   congr 1
   omega
theorem ks_set {K:List SR} {i:Nat} {x:SR} (h:K[i]?=some x) (e:Value):(K.set i (x.1,x.2.1,x.2.2.1,e)).map (fun x=>qC 2 x.1 x.2.2.1.length x.2.1 (x.2.2.1.flatMap itV))=K.map (fun x=>qC 2 x.1 x.2.2.1.length x.2.1 (x.2.2.1.flatMap itV))∧ksOf (K.set i (x.1,x.2.1,x.2.2.1,e))=ksOf K∧(∀s,fK (K.set i (x.1,x.2.1,x.2.2.1,e)) s=fK K s):=by
 have gen:∀{β:Type} (f:SR→β),f (x.1,x.2.1,x.2.2.1,e)=f x→(K.set i (x.1,x.2.1,x.2.2.1,e)).map f=K.map f:=fun {β} f hf=>by
  have hil:=(List.getElem?_eq_some_iff.1 h).1
  rw [List.map_set,hf]
  have h9:i<(K.map f).length:=by simpa using hil
  have:=List.set_getElem_self h9
  rw [List.getElem_map,(List.getElem?_eq_some_iff.1 h).2] at this
  exact this
 refine ⟨gen _ rfl,gen _ rfl,fun s=>?_⟩
 unfold fK
 have e1:∀K:List SR,K.findIdx? (fun x=>decide (BA (keyB x.2.2.1)=s))=(K.map fun x=>x.2.2.1).findIdx? (fun l=>decide (BA (keyB l)=s)):=fun K=>by rw [List.findIdx?_map];rfl
 rw [e1,e1,gen (fun x=>x.2.2.1) rfl]
theorem rb_chg {W w:World} {rb:Nat} {L:List Ch} {t:TypeId} {cs:List Value} (s:St (·=rb) W w L) (k:Nat) (hk:L[k]?=some (boxC rb t cs)) (hW:W.heap[rb]?=some (.cells cs.toArray t (0,0))):Chg noB W w:=by
 obtain ⟨F,h,_⟩:=s.get hk
 refine ⟨s.chg.os,s.chg.tape,s.chg.output,s.chg.size,fun i hi _=>?_⟩
 by_cases e:i=rb
 ·subst e;rw [hW];exact h.2
 ·exact s.chg.block i hi e
theorem build_round {W w:World} {mb:Nat} {A4:Option Addr} {c4:Nat} {P:Prs} (hm:MkR W mb A4 c4 P) (hP:P.length≤97) (hsy:SymOk P) {tb rb i m:Nat} {Ast:Option Addr} {cst:Nat} {vat:Value} {asked:Int} {K:List SR}
  {R:Ending→World→Prop} {C6:Value→World→Prop} (hW:W.heap[rb]?=some (.cells #[.slice none 0 0,.int .i64 0,.int .i64 0] 30 (0,0))) (s:St (·=rb) W w (tabL Try.prog tb Ast cst vat m asked K++[rbC rb])) (hK:KOk P K i) (hi:i<K.length) (hm':m≤30000*i+1)
  (hbig:∀w',Chg (·=rb) W w'→R (.returned (.tuple #[.agg #[.slice none 0 0,.int .i64 0,.int .i64 0],.int .i64 11])) w')
  (hgo:∀w' Ast' cst' m' asked' K',m'≤m+30000→KOk P K' (i+1)→K.length≤K'.length→St (·=rb) W w' (tabL Try.prog tb Ast' cst' vat m' asked' K'++[rbC rb])→lr0_Build.b9 R C6 (.int .i64 i) w') :
  lr0_Build.b11 R C6 (.pointer (some ⟨rb,0,none⟩)) (.pointer (some ⟨mb,0,none⟩)) (.pointer (some ⟨tb,0,none⟩)) (.int .i64 i) w:=by
 have hlen:=hK.len
 have hx:K[i]?=some K[i]:=List.getElem?_eq_getElem hi
 obtain ⟨x,hxe⟩:∃x,K[i]=x:=⟨_,rfl⟩
 rw [hxe] at hx
 obtain ⟨hk0,hR0,hval,hsrt,hnd,hll,h0⟩:=hK.kernel hP hx
 have hne:=hK.ne x (List.mem_of_getElem? hx)
 have y0:=(s.box 0 rfl).1.1
 obtain ⟨F2,ho2,_⟩:=s.get (k:=2) rfl
 obtain ⟨gs,es,hst,_⟩:=row_elem ho2 (fun _ _=>rfl) (by decide) hx
 subst es
 have st0:=hst 0 _ rfl
 simp only [Nat.add_zero,kerV] at st0
 obtain ⟨F3,s3k,_⟩:=s.inAll' 3 rfl
 have hrd:=q_at1 s3k i (a:=x.1) (n:=x.2.2.1.length) (c:=x.2.1) (l:=x.2.2.1) (by rw [List.getElem?_map,hx];rfl)
 unfold lr0_Build.b11
 simp -dsimp [go_sem,y0,hi,st0]
 refine CALL_of (kernels_ct hm (rb_chg s 4 rfl hW) hP hsy hrd (Nat.le_refl _) (by omega) hne hval hnd h0) ?_
 rintro vk w1 ⟨n,r,E,hsr,hr,hrl,hE,hvE,hkE,hEl,hn,s1⟩
 have s2:=s.seq s1
 refine syms_loop s2 hE (by omega) fun w2 sy cs S hSn hSk hSl s3=>?_
 have s4:St (·=rb) W w2 (tabL Try.prog tb (some ⟨gs,0,none⟩) cst vat m asked K++edL rb vk n E [] sy S none 0 0 []):=by
  have:=s3.nilRow 63 2
  unfold edL
  rw [leftE_nil]
  exact this
 have hSi:∀a∈S,inI64 a:=fun a ha=>by
  have h1:=(hkE a).1 ((hSk a).1 ha)
  obtain ⟨y,hy⟩:=List.exists_mem_of_ne_nil _ h1
  obtain ⟨z,_,hz,_⟩:=mem_kerL.1 hy
  exact (hsy.pos _ _ (aft_mem hz)).2
 unfold lr0_Build.b16
 simp -dsimp [go_sem]
 refine edges_loop s4 hP hK hk0 hE hvE hkE hr hsr (by omega) hSn hSk hSi hm' (by omega) hSl hbig fun w3 Ast' cst' m' asked' K' ae ne ce ed hm1 hK1 ⟨q,hq⟩ hdone s5=>?_
 have y5:=(s5.box 0 rfl).1.1
 have hx':K'[i]?=some x:=by rw [hq,List.getElem?_append_left hi];exact hx
 have hi':i<K'.length:=(List.getElem?_eq_some_iff.1 hx').1
 obtain ⟨_,hnc,_⟩:=s5.rowSize 8 rfl
 unfold lr0_Build.b15
 simp -dsimp [go_sem,y5]
 have s6:=s5.old ((Chg.refl noB w3).drew)
 clear y5
 generalize w3.drew=w4 at s6 ⊢
 refine CALL_of (ClipE_ct hnc) ?_
 rintro _ _ ⟨rfl,rfl⟩
 have y6:=(s6.box 0 rfl).1.1
 obtain ⟨F6,ho6,_⟩:=s6.get (k:=2) rfl
 obtain ⟨g6,e6,hst6,hfr6,_⟩:=row_elem ho6 (fun _ _=>rfl) (by decide) hx'
 subst e6
 have st6:=hst6 1 _ rfl
 have fr6:=hfr6 (i*2+1)
 have s7:=s6.setRow 2 rfl (i*2+1) (.slice ae ne ne)
 rw [stV_set hx'] at s7
 unfold lr0_Build.b15_1
 simp -dsimp [go_sem,y6,hi',st6,fr6]
 obtain ⟨e1,e2,e3⟩:=ks_set hx' (.slice ae ne ne)
 have e3':fK (K'.set i (x.1,x.2.1,x.2.2.1,.slice ae ne ne))=fK K':=funext e3
 have el:(K'.set i (x.1,x.2.1,x.2.2.1,Value.slice ae ne ne)).length=K'.length:=List.length_set
 have hkx:(ksOf K')[i]?=some x.2.2.1:=by unfold ksOf;rw [List.getElem?_map,hx'];rfl
 refine hgo _ (some ⟨g6,0,none⟩) cst' m' asked' (K'.set i (x.1,x.2.1,x.2.2.1,.slice ae ne ne)) (by omega) ⟨?_,by rw [el];exact hK1.len,fun y hy=>?_⟩ (by rw [el,hq];simp) ?_
 ·rw [e2]
  refine hK1.bld.next hkx fun a ha=>?_
  obtain ⟨z,hz⟩:=ha
  have hm:=(kerL_go hr a z).2 hz
  have hne':kerL P r a≠[]:=fun e=>by rw [e] at hm;cases hm
  exact ⟨_,hdone a ((hSk a).2 ((hkE a).2 hne')),fun z=>kerL_go hr a z⟩
 ·have:y.2.2.1∈ksOf (K'.set i (x.1,x.2.1,x.2.2.1,.slice ae ne ne)):=List.mem_map.2 ⟨y,hy,rfl⟩
  rw [e2] at this
  obtain ⟨z,hz,e⟩:=List.mem_map.1 this
  rw [←e];exact hK1.ne z hz
 ·unfold tabL
  rw [el,e1,e3']
  exact s7.take 5
/-- What is known of kernels in memory. -/
def StR (w:World) (A:Option Addr) (ks:List (List It)):Prop:=∀(i:Nat) (l:List It),ks[i]?=some l→∃g a c,A=some ⟨g,0,none⟩∧w.cell? ⟨g,i*2,none⟩=some (.slice (some a) l.length c)∧(rSlice rIt).at1 w w.heap.size (.slice (some a) l.length c) l
theorem bTab (q:Option Nat) (w:World):(Instr.build 54 #[(1,.map q)]).run Try.prog w = .ok (.agg #[.slice none 0 0,.int .i64 0,.int .i64 0,.map q]) w:=by simp [go_sem]
theorem bItem0 (w:World):(Instr.build 57 #[]).run Try.prog w = .ok (.agg #[.int .i64 0,.int .i64 0]) w:=by simp [go_sem]
theorem closed_syms {g:Gr} (h:ClosedP g):∀p∈g.prods,inI64 p.1∧∀x∈p.2.1,1≤x∧x<g.terms.length+g.nons.length∧x≠g.terms.length:=by
 intro p hp
 have hd:=h.prods.each
 have ha:=h.added
 have ht:=h.syms.t1
 have hn:=h.syms.n1
 cases hq:g.prods with
 | nil=>rw [hq] at hp;cases hp
 | cons a b =>
  rw [hq] at hp hd ha
  rcases List.mem_cons.1 hp with rfl | hp
  ·injection ha with ha
   have h1:=h.syms.n0
   have h2:=h.prods.s1
   have h3:=h.prods.s0
   rw [ha]
   refine ⟨by unfold inI64;show (-9223372036854775808:Int)≤(g.terms.length:Int)∧(g.terms.length:Int)≤9223372036854775807;omega,fun x hx=>?_⟩
   simp at hx
   subst hx
   omega
  ·have:=hd p (by simpa using hp)
   have h1:=this.l0
   have h2:=this.l1
   refine ⟨by unfold inI64;omega,fun x hx=>?_⟩
   have h3:=this.right x hx
   refine ⟨h3.1,h3.2.1,fun e=>?_⟩
   have:=h3.2.2 (by omega)
   omega
theorem closed_left0 {g:Gr} (h:ClosedP g):lft g.prods 0=g.terms.length∧0<g.prods.length:=by
 have ha:=h.added
 cases hq:g.prods with
 | nil=>rw [hq] at ha;cases ha
 | cons a b =>
  rw [hq] at ha
  injection ha with ha
  subst ha
  exact ⟨rfl,by simp⟩
theorem symOk_of {g:Gr} (h:ClosedP g):SymOk g.prods where
 pos p s hs:=by
  unfold rgt at hs
  by_cases hp:p<g.prods.length
  ·rw [List.getD_eq_getElem?_getD,List.getElem?_eq_getElem hp] at hs
   have hs:s∈g.prods[p].2.1:=hs
   have:=(closed_syms h _ (List.getElem_mem hp)).2 s hs
   have ht:=h.syms.t1
   have hn:=h.syms.n1
   unfold inI64
   omega
  ·rw [List.getD_eq_getElem?_getD,List.getElem?_eq_none (by omega)] at hs
   simp at hs
 no0 p hs:=by
  rw [(closed_left0 h).1] at hs
  unfold rgt at hs
  by_cases hp:p<g.prods.length
  ·rw [List.getD_eq_getElem?_getD,List.getElem?_eq_getElem hp] at hs
   have hs:(g.terms.length:Int)∈g.prods[p].2.1:=hs
   exact ((closed_syms h _ (List.getElem_mem hp)).2 _ hs).2.2 rfl
  ·rw [List.getD_eq_getElem?_getD,List.getElem?_eq_none (by omega)] at hs
   simp at hs
end Go.Proofs.Ytmoepnfobnpdiaa

/-
  lr0.Build, whole.
-/
namespace Go.Proofs.Ytmoepnfobnpdiaa
open Go.Px Go.Px.Scan Go.Px.Cn Go.RowKit
attribute [-go_sem] Builtin.append_ lr0_Build.b15 lr0_Build.b15_1 lr0_Build.b9 lr0_Build.b11 lr0_Build.b20 lr0_Build.b16 lr0_Build.b3 lr0_Build.b3_1 lr0_Build.b7 lr0_Build.b4 lr0_Build.b1_1 lr0_Build.b1_2 lr0_Build.b1_3
theorem Build_ct {w:World} {B:Nat} {vg:Value} {g:Gr} (hg:rGram.atN w B vg g) (hB:B≤w.heap.size) :
  Ct Try.prog lr0_Build.id #[vg] w fun v w'=>Chg noB w w'∧((¬ClosedP g∧v = .tuple #[.agg #[.slice none 0 0,.int .i64 0,.int .i64 0],.int .i64 1])∨(ClosedP g∧v = .tuple #[.agg #[.slice none 0 0,.int .i64 0,.int .i64 0],.int .i64 11]) ∨
   (ClosedP g∧∃A c asked ks,v = .tuple #[.agg #[.slice A ks.length c,.int .i64 asked,.int .i64 (ks.length:Nat)],.int .i64 0]∧Lr0 g.prods ks∧ks.length≤256∧(∀l∈ks,Val g.prods l∧l.length≤29100∧l≠[]∧(∀y∈l,y.2=0→y=(0,0)))∧StR w' A ks)):=by
 refine lr0_Build.ct fun R hR=>?_
 obtain ⟨A1,c1,A2,c2,A3,c3,A4,c4,rfl,⟨m1,m2,m3,m4⟩,hst,hc0,hgr⟩:=box_all hg hB
 have s1:=((St.refl noB w).alloc #[.slice A1 g.terms.length c1,.slice A2 g.nons.length c2,.slice A3 g.levels.length c3,.int .i64 g.start,.slice A4 g.prods.length c4] 27).alloc #[.slice none 0 0,.int .i64 0,.int .i64 0] 30
 obtain ⟨q,hq⟩:∃q,w.heap.size=q:=⟨_,rfl⟩
 have e1:(w.alloc (.cells #[.slice A1 g.terms.length c1,.slice A2 g.nons.length c2,.slice A3 g.levels.length c3,.int .i64 g.start,.slice A4 g.prods.length c4] 27)).heap.size=q+1:=by simp [hq]
 rw [e1,hq] at s1
 unfold lr0_Build.run
 have y1:=(s1.box 0 rfl).1
 have y10:=y1.1
 have y11:=y1.2.1
 have y12:=y1.2.2.1
 have y13:=y1.2.2.2.1
 have y14:=y1.2.2.2.2.1
 simp -dsimp [go_sem,hq,y10,y11,y12,y13,y14]
 have hb1:=s1.chg.below hB fun _ _=>id
 have hB1:B≤((w.alloc (.cells #[.slice A1 g.terms.length c1,.slice A2 g.nons.length c2,.slice A3 g.levels.length c3,.int .i64 g.start,.slice A4 g.prods.length c4] 27)).alloc (.cells #[.slice none 0 0,.int .i64 0,.int .i64 0] 30)).heap.size:=by have:=s1.chg.size;omega
 have hg1:=rGram_below hg hb1
 clear y1 y10 y11 y12 y13 y14 e1
 generalize (w.alloc (.cells #[.slice A1 g.terms.length c1,.slice A2 g.nons.length c2,.slice A3 g.levels.length c3,.int .i64 g.start,.slice A4 g.prods.length c4] 27)).alloc (.cells #[.slice none 0 0,.int .i64 0,.int .i64 0] 30)=w1 at s1 hb1 hB1 hg1 ⊢
 refine CALL_of (Closed_ct hg1 hB1) ?_
 rintro _ w2 ⟨rfl,hc2⟩
 have s2:=s1.old hc2
 by_cases hcl:ClosedP g
 ·rw [closedB_iff.2 hcl]
  have y2:=(s2.box 0 rfl).1
  have y20:=y2.1
  have y21:=y2.2.1
  have y22:=y2.2.2.1
  have y23:=y2.2.2.2.1
  have y24:=y2.2.2.2.2.1
  unfold lr0_Build.b1_3
  simp -dsimp [go_sem,y20,y21,y22,y23,y24]
  clear y2 y20 y21 y22 y23 y24
  refine CALL_of (of_ct (rGram_below hg1 (hc2.below hB1 fun _ _=>id)) (by have:=hc2.size;omega) hcl.prods.c1 fun p hp=>(closed_syms hcl p hp).1) ?_
  rintro _ w3 ⟨mb,B4,d4,rfl,hc3,hm⟩
  have s3:=s2.old hc3
  have hrb:w3.heap[q+1]?=some (.cells #[.slice none 0 0,.int .i64 0,.int .i64 0] 30 (0,0)):=by
   obtain ⟨F,h,_⟩:=s3.get (k:=1) rfl
   exact h.2
  have hc03:Chg noB w w3:=s3.chg
  have t1:St (·=q+1) w3 w3 [rbC (q+1)]:=St.one ⟨rfl,hrb⟩
  have t2:=((((t1.mapV Try.prog kStr 9).alloc #[.slice none 0 0,.int .i64 0,.int .i64 0,.map (some w3.heap.size)] 54).lit 57 2 1 #[.int .i64 0,.int .i64 0] (by simp [maxLen]) rfl).push (c:=Ch.all (([]:List SR).map fun x=>qC 2 x.1 x.2.2.1.length x.2.1 (x.2.2.1.flatMap itV))) ⟨fun _=>0,fun i h=>absurd rfl h,fun k c h=>by simp at h⟩).nilRow 48 2
  have e2:(w3.alloc (.map #[] 0)).heap.size=w3.heap.size+1:=by simp
  have e3:((w3.alloc (.map #[] 0)).alloc (.cells #[.slice none 0 0,.int .i64 0,.int .i64 0,.map (some w3.heap.size)] 54)).heap.size=w3.heap.size+1+1:=by simp
  rw [e2,e3] at t2
  unfold lr0_Build.b1_2
  simp -dsimp [go_sem,mkStr,↓bTab,↓bItem0]
  generalize ((w3.alloc (.map #[] 0)).alloc (.cells #[.slice none 0 0,.int .i64 0,.int .i64 0,.map (some w3.heap.size)] 54)).alloc (.cells #[.int .i64 0,.int .i64 0] 57)=w4 at t2 ⊢
  obtain ⟨vat,hvat⟩:∃vm,Value.map (some w3.heap.size)=vm:=⟨_,rfl⟩
  rw [hvat] at t2
  have hqs:q+1<w3.heap.size:=(Array.getElem?_eq_some_iff.1 hrb).1
  generalize htbe:w3.heap.size+1=tb at t2 ⊢
  have htb:tb+1 > q+1+1:=by omega
  have t3:St (·=q+1) w3 w4 (tabL Try.prog tb none 0 vat 0 0 []++[rbC (q+1),rowC 57 2 (some ⟨tb+1,0,none⟩) 1 1 [.int .i64 0,.int .i64 0]]):=by
   refine t2.pick [2,1,5,4,0,3] (by decide) ?_
   have e:fK ([]:List SR)=fun _=>none:=funext fun s=>rfl
   unfold tabL
   rw [e]
   rfl
  have t4:=t3.turn (k:=5) rfl (d:=qC 2 ⟨tb+1,0,none⟩ 1 1 [.int .i64 0,.int .i64 0]) fun F h=>row_q h
  have t4:St (·=q+1) w3 w4 (tabL Try.prog tb none 0 vat 0 0 []++[rbC (q+1),qC 2 ⟨tb+1,0,none⟩ ([((0,0):It)].length) 1 ([((0,0):It)].flatMap itV)]):=t4
  refine CALL_of (intern_ct (l:=[((0,0):It)]) (K:=[]) (a:=⟨tb+1,0,none⟩) (c:=1) (m:=0) (asked:=0) (Ast:=none) (cst:=0) t4 (jm:=1) rfl (by simp) (by simp) (by simp) (by intro x hx;simp at hx;subst hx;simp) (by simp) (by simp) (by simp) (by simp)) ?_
  rintro _ w5 ⟨A5,c5,m5,asked5,K5,hm5,⟨j5,rfl⟩,t5,hK5⟩
  rcases hK5 with ⟨_,x,hx,_⟩ | ⟨hK5,_⟩
  ·cases hx
  have hKok:KOk g.prods K5 0:=by
   subst hK5
   exact ⟨BldI.first (closed_left0 hcl).2,by simp,by simp⟩
  have t6:=t5.take 5
  have t6:St (·=q+1) w3 w5 (tabL Try.prog tb A5 c5 vat m5 asked5 K5++[rbC (q+1)]):=t6
  have hlK:0<K5.length:=by subst hK5;simp
  unfold lr0_Build.b4
  have hP:=hcl.prods.c1
  have hup:∀w',Chg (·=q+1) w3 w'→Chg noB w w':=fun w' hc=>hc03.trans' hc fun i hi e=>by omega
  refine lr0_Build.l6_intro _ _ _ _ _ _ (fun y w'=>∃(i m:Nat) (Ast:Option Addr) (cst:Nat) (asked:Int) (K:List SR),y = .int .i64 i∧i≤K.length∧m≤30000*i+1∧KOk g.prods K i∧St (·=q+1) w3 w' (tabL Try.prog tb Ast cst vat m asked K++[rbC (q+1)])) (fun y _=>300-iv y)
   ⟨0,m5,A5,c5,asked5,K5,rfl,by omega,by omega,hKok,t6⟩ ?_
  rintro _ w6 ⟨i,m,Ast,cst,asked,K,rfl,hi,hmm,hK,s6⟩ C hC
  have hlK:=hK.len
  have wi:IntKind.i64.wrap ((i:Int)+1)=(i:Int)+1:=IntWalk.i64_in _ (by omega)
  have y6:=(s6.box 0 rfl).1
  have y60:=y6.1
  unfold lr0_Build.b7
  simp -dsimp [go_sem,y60]
  refine SPL_intro (fun p1=>?_) (fun p1=>?_) <;> simp at p1
  ·refine build_round hm hP (symOk_of hcl) hrb s6 hK p1 hmm (fun w' hc=>hR _ _ ⟨hup _ hc,Or.inr (Or.inl ⟨hcl,rfl⟩)⟩) fun w' Ast' cst' m' asked' K' h1 h2 h3 h4=>?_
   unfold lr0_Build.b9
   simp -dsimp [go_sem,wi]
   exact hC _ _ ⟨i+1,m',Ast',cst',asked',K',by simp,by omega,by omega,h2,h4⟩ (by simp [iv];omega)
  ·have hie:i=K.length:=by omega
   subst hie
   unfold lr0_Build.b3
   simp -dsimp [go_sem,y60]
   clear y6 y60
   obtain ⟨_,hnc,_⟩:=s6.rowSize 2 rfl
   refine CALL_of (ClipS_ct hnc) ?_
   rintro _ _ ⟨rfl,rfl⟩
   have y6:=(s6.box 0 rfl).1
   have f6:=(s6.box 0 rfl).2.1
   have y60:=y6.1
   have y61:=y6.2.1
   have y62:=y6.2.2.1
   have z6:=(s6.box 4 rfl).1
   have z60:=z6.1
   have z61:=z6.2.1
   have z62:=z6.2.2.1
   have g6:=(s6.box 4 rfl).2.1
   have s7:=s6.set 0 rfl 0 (.slice Ast K.length K.length)
   have hne:(q+1=tb)=False:=by
    have h1:tb+1 > q+1+1:=htb
    simp;omega
   have s8:=((s7.set 4 rfl 0 (.slice Ast K.length K.length)).set 4 rfl 1 (.int .i64 asked)).set 4 rfl 2 (.int .i64 K.length)
   unfold lr0_Build.b3_1
   simp -dsimp [go_sem,y60,y61,y62,f6,z60,z61,z62,g6,hne]
   generalize (((w6.setCell ⟨tb,0,none⟩ (.slice Ast K.length K.length)).setCell ⟨q+1,0,none⟩ (.slice Ast K.length K.length)).setCell ⟨q+1,1,none⟩ (.int .i64 asked)).setCell ⟨q+1,2,none⟩ (.int .i64 K.length)=w8 at s8 ⊢
   have hkl:(ksOf K).length=K.length:=List.length_map ..
   refine hR _ _ ⟨hup _ s8.chg,Or.inr (Or.inr ⟨hcl,Ast,K.length,asked,ksOf K,by rw [hkl],BldI.fin (hkl ▸ hK.bld),by omega,fun l hl=>?_,fun i l hi=>?_⟩)⟩
   ·obtain ⟨x,hx,rfl⟩:=List.mem_map.1 hl
    obtain ⟨j,hj⟩:=List.mem_iff_getElem?.1 hx
    obtain ⟨_,_,h3,_,_,h6,h7⟩:=hK.kernel hP hj
    exact ⟨h3,h6,hK.ne x hx,h7⟩
   ·unfold ksOf at hi
    rw [List.getElem?_map] at hi
    obtain ⟨x,hx,rfl⟩:=Option.map_eq_some_iff.1 hi
    obtain ⟨F,ho,_⟩:=s8.get (k:=2) rfl
    obtain ⟨gs,es,hst,_⟩:=row_elem ho (fun _ _=>rfl) (by decide) hx
    have st0:=hst 0 _ rfl
    simp only [Nat.add_zero,kerV] at st0
    obtain ⟨F3,s3k,_⟩:=s8.inAll' 3 rfl
    exact ⟨gs,x.1,x.2.1,es,st0,q_at1 s3k i (a:=x.1) (n:=x.2.2.1.length) (c:=x.2.1) (l:=x.2.2.1) (by rw [List.getElem?_map,hx];rfl)⟩
 ·rw [bool_no closedB_iff hcl]
  have f2:=(s2.box 1 rfl).2.1
  have y2:=(s2.box 1 rfl).1
  have s3:=(((s2.set 1 rfl 0 (.slice none 0 0)).set 1 rfl 1 (.int .i64 0)).set 1 rfl 2 (.int .i64 0))
  have y3:=(s3.box 1 rfl).1
  have y30:=y3.1
  have y31:=y3.2.1
  have y32:=y3.2.2.1
  have y20:=y2.1
  have y21:=y2.2.1
  have y22:=y2.2.2.1
  unfold lr0_Build.b1_1
  simp -dsimp [go_sem,f2,y20,y21,y22]
  exact hR _ _ ⟨s3.chg,Or.inl ⟨hcl,rfl⟩⟩
end Go.Proofs.Ytmoepnfobnpdiaa
