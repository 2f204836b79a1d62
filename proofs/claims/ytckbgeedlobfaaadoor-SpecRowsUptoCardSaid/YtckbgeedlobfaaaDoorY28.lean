/-
  Texts of this claim: Lr2, Lr3, RwRows.
-/
import Derived.Test.YtckbgeedlobfaaaDoorY27
import Derived.Test.YtckbgeedlobfaaaDoorY26
set_option maxHeartbeats 1000000
set_option linter.unusedSimpArgs false
set_option linter.unusedVariables false
set_option maxRecDepth 100000
/-
  SpecRows: a round.
-/
namespace Go.Px
open Go.RowKit
variable {G:Nat→Prop} {W w w':World} {L:List Ch}
/-- Some elements at once, out of a literal. -/
theorem St.appendM {P:Program} {X:Pan} {K:Value→World→Prop} (h:St G W w L) (k:Nat) {t ty e:TypeId} {z:Value} {size bytes:Nat} {a0:Option Addr} {n c:Nat} {xs:List Value} (hk:L[k]?=some (rowC e size a0 n c xs))
  (ht:P.underlying t=some (.slice e)) (hi:(P.info? e).map (fun i=>(i.zero,i.size,i.bytes))=some (some z,size,bytes)) (hzs:z.cells.size=size) (hsz:0<size)
  {m c1:Nat} {news:List Value} (hl:news.length=m*size) (hm:0<m) (h1:∀u∈news,u.oneCell'=true)
  (h63:n+m≤maxLen) (hbytes:(n+m)*bytes≤maxBytes)
  (hK:∀g cap w',St G W w' (L.set k (rowC e size (some ⟨g,0,none⟩) (n+m) cap (xs++news)))→K (.slice (some ⟨g,0,none⟩) (n+m) cap) w') :
  RES X ((Builtin.append_ #[t,t] ty #[.slice a0 n c,.slice (some ⟨w.heap.size,0,none⟩) m c1]).run P (w.alloc (.cells news.toArray e))) K:=by
 have hc1:Chg noB w (w.alloc (.cells news.toArray e)):=(Chg.refl _ _).alloc _
 refine (h.old hc1).appendN k hk ht hi hzs hsz hl (alloc_cells w news e rfl) h1 h63 hbytes fun a' cap w' h' hm'=>?_
 obtain ⟨g,rfl⟩:=hm' hm
 exact hK g cap w' h'
end Go.Px
namespace Go.Proofs.YtckbgeedlobfaaaDoor
open Go.Px Go.Px.Scan Go.Px.Spec Go.RowKit
attribute [-go_sem] Builtin.append_ law04_SpecRows.b3_1 law04_SpecRows.b3 law04_SpecRows.b9 law04_SpecRows.b13 law04_SpecRows.b15_1 law04_SpecRows.b15 law04_SpecRows.b14_1 law04_SpecRows.b14 law04_SpecRows.b17_1 law04_SpecRows.b17 law04_SpecRows.b16_1 law04_SpecRows.b16_2 law04_SpecRows.b16 law04_SpecRows.b7 law04_SpecRows.b4 law04_SpecRows.b1_1 law04_SpecRows.b1_2

theorem bW46 (k:Int) (t:ByteArray) (w:World):(Instr.build 46 #[(0,.int .i64 k),(1,.string t)]).run Tryd.prog w = .ok (.agg #[.int .i64 k,.string t,.int .i64 0]) w:=by simp [go_sem]
theorem bS46 (a b c:Wd) (w:World):(Instr.buildSlice 41 3 #[(0,.agg #[.int .i64 a.1,.string a.2.1,.int .i64 a.2.2]),(1,.agg #[.int .i64 b.1,.string b.2.1,.int .i64 b.2.2]),(2,.agg #[.int .i64 c.1,.string c.2.1,.int .i64 c.2.2])]).run Tryd.prog w =
  .ok (.slice (some ⟨w.heap.size,0,none⟩) 3 3) (w.alloc (.cells #[.int .i64 a.1,.string a.2.1,.int .i64 a.2.2,.int .i64 b.1,.string b.2.1,.int .i64 b.2.2,.int .i64 c.1,.string c.2.1,.int .i64 c.2.2] 46)):=by simp [go_sem]
theorem storeW {G:Nat→Prop} {W w1:World} {L:List Ch} {k q:Nat} {x z:Wd} (s:St G W w1 L) (hk:L[k]?=some (boxC q 46 (encW x))) :
  ∃w2,(Instr.storeAt 46 (.pointer (some ⟨q,0,none⟩)) (.agg #[.int .i64 z.1,.string z.2.1,.int .i64 z.2.2])).run Tryd.prog w1 = .ok () w2∧St G W w2 (L.set k (boxC q 46 (encW z))):=by
 obtain ⟨y,yf,yb⟩:=s.box k hk
 simp [boxAt,encW] at y
 have f0:=yf 0
 have f1:=yf 1
 have f2:=yf 2
 have hl:=(List.getElem?_eq_some_iff.1 hk).1
 have e:=fun (c:Ch)=>List.getElem?_set_self (a:=c) hl
 have s1:=s.set k hk 0 (.int .i64 z.1)
 have s2:=s1.set k (e _) 1 (.string z.2.1)
 have s3:=s2.set k (by rw [List.set_set];exact e _) 2 (.int .i64 z.2.2)
 simp only [List.set_set] at s3
 refine ⟨_,?_,s3⟩
 simp -dsimp [go_sem,y,f0,f1,f2,World.cell?_setCell_other]

section
variable {w1 w:World} {R:EP} {A Ao:Option Addr} {c co:Nat} {l out:List Wd} {i:Nat}
theorem rows15 {C:Value→VP} {b:Nat} {x lf:Wd} (hl:out.length≤30000) (hi:i<l.length) (hll:l.length≤8192) (s:St noB w1 w (qLst A c l Ao co out b lf))
  (hC:∀A' c' w',St noB w1 w' (qLst A c l A' c' (out++(if isSg l[i] sBar then [(4,sSemi,0),lf,(4,sColon,0)] else [l[i]])) b lf)→C (.slice A' (out++(if isSg l[i] sBar then [(4,sSemi,0),lf,(4,sColon,0)] else [l[i]])).length c') (.int .i64 ((i+1:Nat):Int)) w') :
  law04_SpecRows.b15 R C (.slice A l.length c) (.slice Ao out.length co) (.pointer (some ⟨b,0,none⟩)) (.int .i64 i) (.bool (isSg l[i] sBar)) w:=by
 obtain ⟨_,g,rfl,e0,e1,e2⟩:=word_at s (k:=0) (i:=i) rfl hi
 have wi:IntKind.i64.wrap ((i:Int)+1)=(i:Int)+1:=IntWalk.i64_in _ (by omega)
 have y:=(s.box 2 rfl).1
 simp [boxAt,encW] at y
 have q0:(i:Int)<l.length:=by omega
 have eF:∀ys:List Wd,(out++ys).flatMap encW=out.flatMap encW++ys.flatMap encW:=fun ys=>by simp
 unfold law04_SpecRows.b15
 refine SPL_intro (fun h=>?_) (fun h=>?_)
 ·rw [h] at hC
  simp only [if_true] at hC
  unfold law04_SpecRows.b15_1
  have ld:(Instr.loadAt 46 (.pointer (some ⟨b,0,none⟩))).run Tryd.prog w = .ok (.agg #[.int .i64 lf.1,.string lf.2.1,.int .i64 lf.2.2]) w:=by simp -dsimp [go_sem,y]
  rw [RUN_eq,bW46,RES_ok,RUN_eq,ld,RES_ok,RUN_eq,bW46,RES_ok,RUN_eq,bS46 (4,⟨#[59]⟩,0) lf (4,⟨#[58]⟩,0),RES_ok,RUN_eq]
  refine s.appendM 1 rfl Tryd.underlying41 info42 rfl (by omega) (m:=3) (news:=[.int .i64 4,.string ⟨#[59]⟩,.int .i64 0,.int .i64 lf.1,.string lf.2.1,.int .i64 lf.2.2,.int .i64 4,.string ⟨#[58]⟩,.int .i64 0]) rfl (by omega) (by simp [Value.oneCell']) (by unfold maxLen;omega) (by unfold maxBytes;omega) ?_
  intro g' cap w' s'
  have e1:(out++[(4,sSemi,0),lf,(4,sColon,0)]).length=out.length+3:=by simp
  have:=hC (some ⟨g',0,none⟩) cap w' (by unfold qLst;rw [e1,eF];exact s')
  rw [e1] at this
  unfold law04_SpecRows.b9
  simp -dsimp [go_sem,wi]
  simpa using this
 ·rw [h] at hC
  simp only [Bool.false_eq_true,if_false] at hC
  unfold law04_SpecRows.b13
  simp -dsimp [go_sem,q0,hi,e0,e1,e2]
  refine s.append1 1 rfl Tryd.underlying41 info42 rfl (by omega) (news:=[.int .i64 l[i].1,.string l[i].2.1,.int .i64 l[i].2.2]) rfl (by simp [Value.oneCell']) (by unfold maxLen;omega) (by unfold maxBytes;omega) ?_
  intro g' cap w' s'
  have e1:(out++[l[i]]).length=out.length+1:=by simp
  have:=hC (some ⟨g',0,none⟩) cap w' (by unfold qLst;rw [e1,eF];exact s')
  rw [e1] at this
  unfold law04_SpecRows.b9
  simp -dsimp [go_sem,wi]
  simpa using this
theorem rows14 {C:Value→VP} {b:Nat} {lf:Wd} (hl:out.length≤30000) (hi:i<l.length) (hll:l.length≤8192) (s:St noB w1 w (qLst A c l Ao co out b lf))
  (hC:∀A' c' w',St noB w1 w' (qLst A c l A' c' (out++(if isSg l[i] sBar then [(4,sSemi,0),lf,(4,sColon,0)] else [l[i]])) b lf)→C (.slice A' (out++(if isSg l[i] sBar then [(4,sSemi,0),lf,(4,sColon,0)] else [l[i]])).length c') (.int .i64 ((i+1:Nat):Int)) w') :
  law04_SpecRows.b14 R C (.slice A l.length c) (.slice Ao out.length co) (.pointer (some ⟨b,0,none⟩)) (.int .i64 i) w:=by
 have go:=rows15 (R:=R) (C:=C) (x:=lf) hl hi hll s hC
 obtain ⟨_,g,rfl,e0,e1,e2⟩:=word_at s (k:=0) (i:=i) rfl hi
 have q0:(i:Int)<l.length:=by omega
 unfold law04_SpecRows.b14
 simp -dsimp [go_sem,q0,hi,e0]
 refine SPL_intro (fun h1=>?_) (fun h1=>?_) <;> simp at h1
 ·unfold law04_SpecRows.b14_1
  simp -dsimp [go_sem,q0,hi,e1]
  rw [bar_text,show decide (l[i].2.1=sBar)=isSg l[i] sBar by simp [isSg,h1]]
  exact go
 ·rw [show isSg l[i] sBar=false by simp [isSg,h1]] at go
  exact go
theorem rows16 {C:Value→VP} {b:Nat} {lf lf':Wd} (hl:out.length≤30000) (hi:i<l.length) (hll:l.length≤8192) (hlf:lf'=if isCol (l.drop (i+1)) then l[i] else lf) (s:St noB w1 w (qLst A c l Ao co out b lf))
  (hC:∀A' c' w',St noB w1 w' (qLst A c l A' c' (out++(if isSg l[i] sBar then [(4,sSemi,0),lf',(4,sColon,0)] else [l[i]])) b lf')→C (.slice A' (out++(if isSg l[i] sBar then [(4,sSemi,0),lf',(4,sColon,0)] else [l[i]])).length c') (.int .i64 ((i+1:Nat):Int)) w') :
  law04_SpecRows.b16 R C (.slice A l.length c) (.slice Ao out.length co) (.pointer (some ⟨b,0,none⟩)) (.int .i64 i) w:=by
 obtain ⟨_,g,rfl,e0,e1,e2⟩:=word_at s (k:=0) (i:=i) rfl hi
 have wi:IntKind.i64.wrap ((i:Int)+1)=(i:Int)+1:=IntWalk.i64_in _ (by omega)
 have q0:(i:Int)<l.length:=by omega
 have y:=(s.box 2 rfl).1
 have yf:=(s.box 2 rfl).2.1
 simp [boxAt,encW] at y
 have no:isCol (l.drop (i+1))=false→law04_SpecRows.b17 R C (.slice (some ⟨g,0,none⟩) l.length c) (.slice Ao out.length co) (.pointer (some ⟨b,0,none⟩)) (.int .i64 i) (.bool false) w:=fun h=>by
  rw [h] at hlf
  have hlf:lf'=lf:=hlf
  subst hlf
  unfold law04_SpecRows.b17
  simp -dsimp [go_sem]
  exact rows14 hl hi hll s hC
 unfold law04_SpecRows.b16
 simp -dsimp [go_sem,wi]
 refine SPL_intro (fun p1=>?_) (fun p1=>?_)
 ·have p1:i+1<l.length:=by simp at p1;omega
  have hcol:=isCol_at p1
  obtain ⟨_,g',hg',f0,f1,f2⟩:=word_at s (k:=0) (i:=i+1) rfl p1
  injection hg' with hg';injection hg' with hg';subst hg'
  have q1:(i:Int)+1<l.length:=by omega
  have t1:((i:Int)+1).toNat=i+1:=by omega
  have t2:(0:Int)≤(i:Int)+1:=by omega
  unfold law04_SpecRows.b16_2
  simp -dsimp [go_sem,wi,q1,t1,t2,f0,f1]
  refine SPL_intro (fun h1=>?_) (fun h1=>?_) <;> simp at h1
  ·unfold law04_SpecRows.b16_1
   simp -dsimp [go_sem,wi,q1,t1,t2,f0,f1]
   rw [col_text]
   by_cases h2:l[i+1].2.1=sColon
   ·rw [hcol,show isSg l[i+1] sColon=true by simp [isSg,h1,h2],if_pos rfl] at hlf
    have hlf:lf'=l[i]:=hlf
    subst hlf
    obtain ⟨w2,r2,s2⟩:=storeW (z:=l[i]) s (k:=2) rfl
    unfold law04_SpecRows.b17
    simp -dsimp [go_sem,h2]
    unfold law04_SpecRows.b17_1
    have ix:(Instr.indexAt 41 (.slice (some ⟨g,0,none⟩) l.length c) (.int .i64 i)).run Tryd.prog w = .ok (.pointer (some ⟨g,i*3,none⟩)) w:=by simp -dsimp [go_sem,q0,hi]
    have ld:(Instr.loadAt 46 (.pointer (some ⟨g,i*3,none⟩))).run Tryd.prog w = .ok (.agg #[.int .i64 l[i].1,.string l[i].2.1,.int .i64 l[i].2.2]) w:=by simp -dsimp [go_sem,e0,e1,e2]
    rw [RUN_eq,ix,RES_ok,RUN_eq,ld,RES_ok,RUNU_eq,r2,RESU_ok]
    exact rows14 hl hi hll s2 hC
   ·simp only [h2,decide_false]
    exact no (by rw [hcol];simp [isSg,h2])
  ·exact no (by rw [hcol];simp [isSg,h1])
 ·have p1:l.length≤i+1:=by simp at p1;omega
  exact no (isCol_end p1)
end
end Go.Proofs.YtckbgeedlobfaaaDoor

/-
  SpecRows: the law.
-/
namespace Go.Proofs.YtckbgeedlobfaaaDoor
open Go.Px Go.Px.Scan Go.Px.Spec Go.RowKit
attribute [-go_sem] Builtin.append_ law04_SpecRows.b3_1 law04_SpecRows.b3 law04_SpecRows.b16 law04_SpecRows.b7 law04_SpecRows.b4 law04_SpecRows.b1_1 law04_SpecRows.b1_2

theorem rwL_at {l:List Wd} {lf:Wd} {i:Nat} (h:i<l.length):rwL lf (l.drop i)=(if isSg l[i] sBar then [(4,sSemi,0),(if isCol (l.drop (i+1)) then l[i] else lf),(4,sColon,0)] else [l[i]])++rwL (if isCol (l.drop (i+1)) then l[i] else lf) (l.drop (i+1)):=by
 rw [List.drop_eq_getElem_cons h,rwL]
 split <;> rfl

theorem SpecRows_ct {s:ByteArray} {w:World} {B:Nat} (hs:s.size≤maxLen) (hO:Ord w B) (hB:B≤w.heap.size) :
  Ct Tryd.prog law04_SpecRows.id #[.string s] w fun v w'=>v = .bool true∧Chg noB w w':=by
 refine law04_SpecRows.ct fun R hR=>?_
 unfold law04_SpecRows.run law04_SpecRows.b1
 refine CALL_of (awake_ct hO hB) ?_
 rintro _ w1 ⟨rfl,hc1⟩
 have ord:∀w',Chg noB w1 w'→Ord w' B∧B≤w'.heap.size:=fun w' hc=>⟨hO.chg (hc1.trans hc) hB fun _ _=>id,by have:=(hc1.trans hc).size;omega⟩
 have fin:∀w',Chg noB w1 w'→R (.returned (.bool true)) w':=fun w' hc=>hR _ _ ⟨rfl,hc1.trans hc⟩
 have o1:=ord w1 (Chg.refl _ _)
 refine CALL_of (good_ct (m:=4096) hs (by omega) o1.1 o1.2) ?_
 rintro _ w2 ⟨A,c,rfl,s2⟩
 have hlen:=words_len s
 have hwp:=words_wp s
 have hws:∀x∈(wordsS s).1,x.2.1.size≤16:=fun x hx=>word_sz hx
 unfold law04_SpecRows.b1_2
 simp -dsimp [go_sem]
 refine SPL_intro (fun h=>?_) (fun h=>?_)
 ·exact fin _ s2.chg
 have h:(wordsS s).2=none∧badS s<0∧nW (wordsS s).1+4096≤8192:=by simpa using h
 obtain ⟨h1,h2,h3⟩:=h
 obtain ⟨l,hl⟩:∃l,wordsS s=(l,none):=⟨(wordsS s).1,by rw [←h1]⟩
 obtain ⟨_,m,hg,he⟩:=bad_acc h2
 rw [hl] at s2 hlen hwp hws h3 hg ⊢
 obtain ⟨hrw,m',g1,g2,g3⟩:=rows_out hg he hwp
 have hlen:l.length≤8192:=hlen
 have s3:=(s2.nilRow 46 3).alloc (encW (0,noT,0)).toArray 46
 unfold law04_SpecRows.b1_1
 have bz:(Instr.build 46 #[]).run Tryd.prog w2 = .ok (.agg #[.int .i64 0,.string ⟨#[]⟩,.int .i64 0]) w2:=by simp [go_sem]
 have al:(Instr.alloc 46 true (.tuple #[])).run Tryd.prog w2 = .ok (.pointer (some ⟨w2.heap.size,0,none⟩)) (w2.alloc (.cells (encW (0,noT,0)).toArray 46)):=by simp -dsimp [go_sem,encW];rfl
 rw [RUN_eq,bz,RES_ok,RUN_eq,al,RES_ok]
 generalize w2.alloc (.cells (encW (0,noT,0)).toArray 46)=w3 at s3 ⊢
 generalize w2.heap.size=b at s3 ⊢
 obtain ⟨w4,r4,s4⟩:=storeW (x:=(0,noT,0)) (z:=(0,noT,0)) s3 (k:=2) rfl
 rw [RUNU_eq,show (.agg #[.int .i64 0,.string ⟨#[]⟩,.int .i64 0]:Value) = .agg #[.int .i64 (0,noT,0).1,.string ((0,noT,0):Wd).2.1,.int .i64 ((0,noT,0):Wd).2.2] from rfl,r4,RESU_ok]
 unfold law04_SpecRows.b4
 refine law04_SpecRows.l6_intro _ _ _ _ _ _ _ _ (fun y6 y8 w'=>∃(i:Nat) (out:List Wd) (lf:Wd) (Ao:Option Addr) (co:Nat),y6 = .slice Ao out.length co∧y8 = .int .i64 i∧i≤l.length∧out.length≤3*i∧out++rwL lf (l.drop i)=rwL (0,noT,0) l ∧
   St noB w1 w' (qLst A c l Ao co out b lf))
  (fun _ y _=>l.length-iv y) ⟨0,[],(0,noT,0),none,0,rfl,rfl,by omega,by simp,rfl,s4⟩ ?_
 rintro _ _ w5 ⟨i,out,lf,Ao,co,rfl,rfl,hi,hol,hout,s5⟩ C6 hC
 unfold law04_SpecRows.b7
 simp -dsimp [go_sem]
 refine SPL_intro (fun p1=>?_) (fun p1=>?_) <;> simp at p1
 ·refine rows16 (by omega) p1 hlen rfl s5 fun A' c' w' s'=>?_
  refine hC _ _ _ ⟨i+1,_,_,A',c',rfl,rfl,p1,?_,?_,s'⟩ (by simp [iv];omega)
  ·rw [List.length_append]
   split <;> simp <;> omega
  ·rw [←hout,rwL_at p1,List.append_assoc]
 ·have hil:i=l.length:=by omega
  rw [hil,List.drop_length] at hout
  have hout:out=rwL (0,noT,0) l:=by simpa [rwL] using hout
  have hwx:∀x∈out,x.2.1.size≤100:=fun x hx=>by
   rw [hout] at hx
   obtain ⟨_,_,_,h⟩:=okw_wp (hrw x hx)
   unfold wr at h
   split at h
   ·rw [quo_size] at h;omega
   ·omega
  unfold law04_SpecRows.b3
  refine CALL_of (joined_ct s5 (k:=1) rfl (by omega) hwx) ?_
  rintro _ w6 ⟨rfl,hc6⟩
  have hc6':=s5.chg.trans hc6
  have o6:=ord w6 hc6'
  unfold law04_SpecRows.b3_1
  simp -dsimp [go_sem]
  refine SPL_intro (fun p2=>?_) (fun p2=>?_) <;> simp at p2
  ·exact fin _ hc6'
  have p3:(jn out).size≤8192:=by omega
  have href:=jn_ref (s:=s) hrw (by rw [←hout];exact p3) hl hg he g1 g2 g3
  refine CALL_of (alike_ct hs (t:=jn out) (by unfold maxLen;omega) o6.1 o6.2) ?_
  rintro _ w7 ⟨rfl,hc7⟩
  rw [hout,←href,eqB_of rfl]
  simp -dsimp [go_sem]
  exact fin _ (hc6'.trans hc7)
end Go.Proofs.YtckbgeedlobfaaaDoor

/-
  The law SpecRows returns true for every text whose bulk is at most 1048576, and nothing that was there before the call has turned: the tied card of the second form; its condition is that scan.orders holds its seven texts when the call begins, and no argument takes more than a machine has.
-/
namespace Go.Proofs.YtckbgeedlobfaaaDoor.specRows
open Go.Px Go.ChangeShapes Go.WideShapes Go.ChangeAt Go.RowKit Go.Px.Scan

set_option maxRecDepth 100000 in
theorem contract (H:Type) (enc:TypeId×Value→H) (W:World) (base:Nat) (args:Array Value) (ds gs:List (DataW H)) (before:List MemPlace)
  (hval:∀(j:Nat) t v,Tryd.f7.params[j]?=some t→args[j]?=some v→Value.okWide Tryd.prog W .any base t v)
  (hW:DataW.Whole enc Tryd.prog Tryd.f7.params.toList Rows.specRowsSpec.vars false W args.toList ds gs before)
  (hup:Rows.uptoSmall H (ds++gs)=true)
  (hwt:(DataW.weightsEach Tryd.prog (Tryd.f7.params.toList++(Rows.OpenSpec.upto Rows.specRowsSpec).bare.plain.varTypes Tryd.prog) (ds++gs)).all (·≤reachBytes)=true) (hL:laidMetH Tryd.prog Rows.specRowsUptoRow.laid W) :
  Calls Tryd.prog 7 args W fun e W'=>∃v,e = .returned v∧Rows.specRowsSpec.post enc Tryd.prog Tryd.f7 false true false false W args v W':=by
 have hW':=hW
 obtain ⟨p,q,hA0,hV,rfl,hfz,hnd⟩:=hW
 have hA:DataW.TrodAll enc Tryd.prog W 0 (fun _=>true) true Tryd.f7.params.toList args.toList ds p:=hA0
 rw [Tryd.params7] at hA hval hwt
 obtain ⟨v0,vs0,d0,ds0,p0,q0,hargs0,rfl,rfl,h0,r0⟩:=trodAll_cons hA
 obtain ⟨rfl,rfl,rfl⟩:=trodAll_nil r0
 obtain rfl:args=#[v0]:=by cases args;simp_all
 obtain ⟨rfl,rfl⟩:=trodVars_none hV
 have hwt':(DataW.weightsEach Tryd.prog ([9]++[]) ([d0]++[])).all (·≤reachBytes)=true:=hwt
 simp only [List.append_nil,DataW.weightsEach,List.all_append,Bool.and_eq_true] at hwt'
 have ec0:v0.cells=#[v0]:=by obtain ⟨_,rfl⟩:=okWide_string Tryd.underlying9 (hval 0 9 v0 rfl rfl);rfl
 obtain ⟨a0,ha0,hf0,hb0⟩:=open_arg1 opens9 ec0 h0
 have hf0:=hf0 hwt'
 obtain ⟨rfl,hs0⟩:=str_at1 ha0
 have hO:=ord_of_laid hL
 refine (SpecRows_ct hs0 hO (Nat.le_refl _)).2.mono fun e W' he=>?_
 cases e with
 | returned v =>
  obtain ⟨rfl,hb⟩:=he
  exact ⟨_,rfl,law_post (t:=4) (by kernel_rfl) (fun t ht=>by
   rw [Tryd.params7] at ht
   simp only [List.mem_cons,List.not_mem_nil,or_false] at ht
   rcases ht with rfl <;> exact ⟨by kernel_rfl,by decide +kernel⟩) rfl Tryd.underlying4 rfl hW' rfl rfl rfl (hb.below (Nat.le_refl _) fun _ _=>id)⟩
 | _=>exact he.elim

theorem reads (os:Os) {H:Type} (enc:TypeId×Value→H):∃places,DataW.whole enc Tryd.prog ((laidWorld os).forCall (fun _ _=>0) ⟨#[],#[.string ⟨#[]⟩],[]⟩).memory Tryd.f7.params.toList Rows.specRowsSpec.vars false #[.string ⟨#[]⟩].toList 8=some ([.lit (.string [])],[],places) :=
 ⟨[],by kernel_rfl⟩

set_option maxRecDepth 100000 in
theorem lifted (os:Os) (started:os.Started) (H:Type) (enc:TypeId×Value→H) (F:Stop.Interp) :
  ReturnsInHanded {} Tryd.checked os 7 .any ((Rows.OpenSpec.upto Rows.specRowsSpec).preRow enc Tryd.prog Tryd.f7 Rows.specRowsUptoRow.domain false Rows.specRowsUptoRow.laid) (((Rows.OpenSpec.upto Rows.specRowsSpec).at F).post enc Tryd.prog Tryd.f7 false true false false):=by
 obtain ⟨places,hx⟩:=reads os enc
 refine returnsInHanded_of_row (C:=Tryd.checked) (s:=Rows.OpenSpec.upto Rows.specRowsSpec) own started (by kernel_rfl) Tryd.func7
  (witness_row_atRef (enc:=enc) (C:=Tryd.checked) false (laidWorld os) #[.string ⟨#[]⟩] rfl (by kernel_rfl) (by kernel_rfl) (by kernel_rfl)
   (OpenSpec.preRow_of_cond 8 hx (by kernel_rfl) (fun k hk=>by cases hk;kernel_rfl) (by kernel_rfl) (laid_met os _))) ?_
 intro W base args ds gs before hval hW _ hcond hwt hL _ _
 exact contract H enc W base args ds gs before hval hW (hcond _ rfl) hwt hL

theorem said:Rows.SpecRowsUptoSaid :=
 OpenClaim.holds_of_cond 7 Tryd.f7 rfl rfl rfl rfl rfl rfl rfl ⟨rfl,rfl,rfl,rfl,rfl⟩ rfl rfl rfl rfl rfl (by kernel_rfl) Tryd.func7 (by kernel_rfl)
  (of_decide_eq_true (by kernel_rfl)) (by unfold Func.isWrapper;first | (rw [if_pos (by decide +kernel)];kernel_rfl) | (rw [if_neg (by decide +kernel)];exact ⟨rfl,rfl⟩))
  (fun os started H enc _ F=>by rw [OpenClaim.pre_eq_preRow];exact lifted os started H enc F)

theorem plain (f:FuncId) (fn:Func) (hf:Tryd.pinned.checked.prog.funcNamed "presage/presagelaw04.SpecRows" = some f) (hfn:Tryd.pinned.checked.prog.funcs[f]?=some fn) :
  true=Tryd.pinned.checked.prog.looks []∧∀(j:Nat) t,fn.params[j]?=some t→Tryd.pinned.checked.prog.wantsStandIn t=false:=by
 obtain rfl:f=7:=Option.some.inj ((show Tryd.prog.funcNamed "presage/presagelaw04.SpecRows" = some 7 by kernel_rfl).symm.trans hf) |>.symm
 obtain rfl:fn=Tryd.f7:=(Option.some.inj (Tryd.func7.symm.trans hfn)).symm
 refine ⟨by kernel_rfl,fun j t ht=>?_⟩
 rw [Tryd.params7] at ht
 have hm:=Array.mem_of_getElem? ht
 simp only [List.mem_toArray,List.mem_cons,List.not_mem_nil,or_false] at hm
 rcases hm with rfl
 ·exact (show Tryd.prog.wantsStandIn 9=false by kernel_rfl)

theorem card:Rows.SpecRowsUptoCardSaid :=
 Claim7.holds_tied_plain_at .later [] _ _ _ _ said (fun _ h=>by cases h) (by kernel_rfl) (fun _ h=>by cases h) specRowsUpto_row_tie rfl ⟨rfl,rfl⟩ (by kernel_rfl) rfl plain (by kernel_rfl)

end Go.Proofs.YtckbgeedlobfaaaDoor.specRows

namespace Go.Proofs.YtckbgeedlobfaaaDoor
theorem SpecRows_holds:Rows.SpecRowsUptoCardSaid:=specRows.card
end Go.Proofs.YtckbgeedlobfaaaDoor
#print axioms Go.Proofs.YtckbgeedlobfaaaDoor.SpecRows_holds
