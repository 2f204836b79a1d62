/-
  Texts of this claim: Rn4, Mk8, Mk9, Pl4, Pl5, Pl6, Pl7, Gq1, SameInts, Gq2.
-/
import Derived.Test.YtckbgeedlobfaaaDoorY24
import Derived.Test.YtckbgeedlobfaaaDoorY21
import Derived.Test.YtckbgeedlobfaaaDoorY23
import Derived.Test.YtckbgeedlobfaaaDoorY17
import Derived.Test.YtckbgeedlobfaaaDoorY16
import Derived.Test.YtckbgeedlobfaaaDoorY08
import Derived.Test.YtckbgeedlobfaaaDoorY10
import Derived.Test.YtckbgeedlobfaaaDoorY09
import Derived.Test.YtckbgeedlobfaaaDoorY19
set_option maxHeartbeats 1000000
set_option linter.unusedSimpArgs false
set_option linter.unusedVariables false
set_option maxRecDepth 100000
/-
  The document's grammar, Read and Bad.
-/
namespace Go.Px.Spec
open Go.Px Go.Px.Scan
/-- What the document's Read tells. -/
def refG (s:ByteArray):Gr×Int×Int :=
 if 0≤badS s then (⟨[],[],[],0,[]⟩,10,badS s)
 else
  let x:=numX (rxOf (goM m0 (wordsS s).1).1)
  if x.ts.length-1+x.ls.length > 64∨x.rows.length > 96 then (⟨[],[],[],0,[]⟩,11,0) else (gOf x,0,0)
end Go.Px.Spec
namespace Go.Proofs.YtckbgeedlobfaaaDoor
open Go.Px Go.Px.Scan Go.Px.Spec Go.RowKit
attribute [-go_sem] Builtin.append_

section
variable {G:Nat→Prop} {W w w1:World} {R:EP} {tb q2 q3:Nat} {x:Rx} {D:TD} {L:List Ch} {us:List Value}

theorem bGr4 (A1 A2 A3:Option Addr) (n1 n2 n3 c1 c2 c3:Nat) (st:Int) (w:World):(Instr.build 28 #[(0,.slice A1 n1 c1),(1,.slice A2 n2 c2),(2,.slice A3 n3 c3),(3,.int .i64 st)]).run Tryd.prog w = .ok (.agg #[.slice A1 n1 c1,.slice A2 n2 c2,.slice A3 n3 c3,.int .i64 st,.slice none 0 0]) w:=by simp [go_sem]
attribute [go_sem ↓] bGr4

/-- Numbers of a grammar. -/
structure GI (g:Gr):Prop where
 terms:∀t∈g.terms,t.1.size≤maxLen∧inI64 t.2
 nons:∀s∈g.nons,s.size≤maxLen
 levels:∀x∈g.levels,inI64 x
 start:inI64 g.start
 prods:∀p∈g.prods,inI64 p.1∧(∀x∈p.2.1,inI64 x)∧inI64 p.2.2

/-- What the document's Read hands back. -/
def RfAns (s:ByteArray) (w:World) (v:Value) (w':World):Prop :=
 ∃vg,v = .tuple #[vg,mishV (refG s).2.1 (refG s).2.2]∧GrNew w w' vg (refG s).1

theorem bM0 (w:World):(Instr.build 31 #[]).run Tryd.prog w = .ok (mishV 0 0) w:=by simp [go_sem,mishV]
attribute [go_sem ↓] bM0

end
end Go.Proofs.YtckbgeedlobfaaaDoor

/-
  Read: its deferred function, its regions by hand.
-/
namespace Go.Proofs.YtckbgeedlobfaaaDoor
open Go.Px Go.Px.Scan Go.Px.Spec Go.RowKit
attribute [-go_sem] Builtin.append_ Rec2.b2

theorem tyErr (a:Int) (w:World):(Instr.typeAssert (.iface 29 (.int .i64 a)) 20 29 true).run Tryd.prog w = .ok (.tuple #[.int .i64 a,.bool true]) w:=by
 simp [go_sem,Instr.typeAssert]

section
variable {w w1:World} {R:EP} {q2 q3:Nat}

theorem rec2_nil {x0 x1:Value} (h:R (.returned (.agg #[x0])) w):Rec2.b1 R x0 x1 .nilIface w:=by
 unfold Rec2.b1
 simp -dsimp [go_sem]
 exact h

theorem rec2_err {e:Int} (s:St noB w w1 [boxC q2 28 zG,boxC q3 31 zM])
  (h:∀w',St noB w w' [boxC q2 28 zG,boxC q3 31 [.int .i64 e,.int .i64 0,.slice none 0 0]]→R (.returned (.tuple #[.pointer (some ⟨q2,0,none⟩)])) w'):Rec2.b1 R (.pointer (some ⟨q2,0,none⟩)) (.pointer (some ⟨q3,0,none⟩)) (.iface 29 (.int .i64 e)) w1:=by
 obtain ⟨w2,r2,s2⟩:=storeG (A1:=none) (A2:=none) (A3:=none) (A4:=none) (n1:=0) (n2:=0) (n3:=0) (n4:=0) (c1:=0) (c2:=0) (c3:=0) (c4:=0) (x:=0) s (k:=0) rfl rfl
 obtain ⟨w3,r3,s3⟩:=storeM (c:=e) (a:=0) s2 (k:=1) rfl rfl
 have r2':(Instr.storeAt 28 (.pointer (some ⟨q2,0,none⟩)) (.agg zG.toArray)).run Tryd.prog w1 = .ok () w2:=r2
 unfold Rec2.b1
 simp -dsimp [go_sem,tyErr]
 unfold Rec2.b2
 rw [RUN_eq,bG0,RES_ok,RUN_eq,bM1,RES_ok,RUNU_eq,r2',RESU_ok,RUNU_eq,r3,RESU_ok]
 exact h _ s3

theorem rec2_run {c₀:Frame} {cs:List Frame} {a:Int} (h:c₀.mode = .panicking (errP a)):recoverD (c₀::cs)=some (.iface 29 (.int .i64 a),{c₀ with mode := .panicking [{v := .iface 29 (.int .i64 a),recovered:=true }] }::cs):=by
 simp [recoverD,h,errP]

theorem rec2_wp {tm:Array Value} {x0 x1 x2:Value} (hsz:tm.size=Tryd.f26.ntmps) (h0:tm.getD 0 undef=x0) (h1:tm.getD 1 undef=x1) (h2:tm.getD 2 undef=x2) (h:Rec2.b1 R x0 x1 x2 w) :
  Rec2.code.wp Tryd.prog (post (pan R) Tryd.f26.ntmps (Rec2.q1 R) []) {tmps:=tm,defers:=[] } w :=
 Rec2.part_wp (ρ:=fun n=>tm.getD n undef) ⟨hsz,fun _=>rfl,rfl⟩ (by
  show Rec2.b1 R (tm.getD 0 undef) (tm.getD 1 undef) (tm.getD 2 undef) w
  rw [h0,h1,h2];exact h)

theorem rec2_callsD {n:Nat} {u:FrameMode} {R:Ending→FrameMode→World→Prop} {e:Int}
  (hu:u = .returning∧R (.returned (.tuple #[])) .returning w1 ∨
   u = .panicking (errP e)∧St noB w w1 [boxC q2 28 zG,boxC q3 31 zM]∧∀w',St noB w w' [boxC q2 28 zG,boxC q3 31 [.int .i64 e,.int .i64 0,.slice none 0 0]]→R (.returned (.tuple #[])) (.panicking [{v := .iface 29 (.int .i64 e),recovered:=true }]) w') :
  CallsDIn Fence.wide n Tryd.prog spec_Read_1.id #[.pointer (some ⟨q2,0,none⟩),.pointer (some ⟨q3,0,none⟩)] u w1 R:=by
 refine callsDIn_of_wpSIn Tryd.func26 rfl trivial fun c₀ cs hc=>?_
 refine wpSIn_seq (wpSIn_region ?_)
 simp [wpOpsSIn,Region.wanted,execOp,go_sem]
 rcases hu with ⟨rfl,hR⟩ | ⟨rfl,s,hR⟩
 ·rw [rec1_no hc]
  show Code.wpSIn Fence.wide n Tryd.prog Rec2.code _ _ _ _
  refine wpSIn_of_wpIn rfl (wpIn_wide.2 (wp_mono (rec2_wp (R:=fun e w'=>e = .returned (.agg #[.pointer (some ⟨q2,0,none⟩)])∧w'=w1) (by simp) (by simp [Array.getD]) (by simp [Array.getD]) (by simp [Array.getD]) (rec2_nil (x1 := .pointer (some ⟨q3,0,none⟩)) ⟨rfl,rfl⟩)) ?_))
  rintro e a' w' h
  cases e with
  | normal=>obtain ⟨ρ,_,h,_⟩:=h;cases h
  | ret =>
   obtain ⟨ρ,hr,h,rfl⟩:=h
   exact ⟨hr.defers,.returning,by rw [←hc],.tuple #[],by rw [results_none rfl],hR⟩
  | panic ch=>obtain ⟨_,h,_⟩:=h;cases h
  | exit k=>obtain ⟨_,_,h⟩:=h;exact h.elim
  | goto k=>obtain ⟨_,_,h⟩:=h;exact h.elim
  | outgrown=>obtain ⟨_,_,h⟩:=h;exact h.elim
 ·rw [rec2_run hc]
  show Code.wpSIn Fence.wide n Tryd.prog Rec2.code _ _ _ _
  refine wpSIn_of_wpIn rfl (wpIn_wide.2 (wp_mono (rec2_wp (R:=fun e' w'=>e' = .returned (.tuple #[.pointer (some ⟨q2,0,none⟩)])∧St noB w w' [boxC q2 28 zG,boxC q3 31 [.int .i64 e,.int .i64 0,.slice none 0 0]]) (by simp) (by simp [Array.getD]) (by simp [Array.getD]) (by simp [Array.getD]) (rec2_err s fun w' s'=>⟨rfl,s'⟩)) ?_))
  rintro e a' w' h
  cases e with
  | normal =>
   obtain ⟨ρ,hr,h,s'⟩:=h
   exact ⟨hr.defers,_,rfl,.tuple #[],by rw [results_none rfl],hR _ s'⟩
  | ret=>obtain ⟨ρ,_,h,_⟩:=h;cases h
  | panic ch=>obtain ⟨_,h,_⟩:=h;cases h
  | exit k=>obtain ⟨_,_,h⟩:=h;exact h.elim
  | goto k=>obtain ⟨_,_,h⟩:=h;exact h.elim
  | outgrown=>obtain ⟨_,_,h⟩:=h;exact h.elim
end

noncomputable def rq4:Code:=fstC (sndC (sndC (sndC (bodyOf Tryd.f12))))
theorem rq4_eq:rq4 = .region 4 (opsC rq4) false:=by kernel_rfl
theorem rq4_sz:(opsC rq4).size=2:=by kernel_rfl
theorem rq4_0:((opsC rq4)[0]?).map (fun o=>(o.dst,o.op,o.guard))=some (some 18,.makeFunc (.func 26) #[] #[.tmp 2,.tmp 3],none):=by kernel_rfl
theorem rq4_1:((opsC rq4)[1]?).map (fun o=>(o.dst,o.op,o.guard))=some (none,.defer ⟨.value (.tmp 18),#[],#[]⟩,none):=by kernel_rfl
theorem op_of {ops:Array Oper} {i:Nat} {x:Option Tmp×Op×Option (Nat×Bool)} (h:(ops[i]?).map (fun o=>(o.dst,o.op,o.guard))=some x):∃t p a,ops[i]?=some {dst:=x.1,op:=x.2.1,type:=t,pos:=p,after:=a,guard:=x.2.2 }:=by
 cases ho:ops[i]? with
 | none=>rw [ho] at h;cases h
 | some o=>rw [ho] at h;injection h with h;subst h;exact ⟨o.type,o.pos,o.after,rfl⟩

theorem rq4_wp {Q:Exit→Act→World→Prop} {a:Act} {w:World} {v2 v3:Value} (hsz:a.tmps.size=36) (h2:a.tmps.getD 2 undef=v2) (h3:a.tmps.getD 3 undef=v3)
  (hK:Q .normal {tmps:=a.tmps.setIfInBounds 18 (.func (.func 26) #[] #[v2,v3]),defers:={target := .fn (.func 26) #[v2,v3],args:=#[] }::a.defers } w):rq4.wp Tryd.prog Q a w:=by
 rw [rq4_eq]
 refine wp_region ?_
 rw [rq4_sz]
 obtain ⟨t0,p0,a0,h0⟩:=op_of rq4_0
 obtain ⟨t1,p1,a1,h1⟩:=op_of rq4_1
 rw [Array.getD_eq_getD_getElem?] at h2 h3
 simp [List.range,List.range.loop,wpOps,h0,h1,Region.wanted,Oper.wp,execOp,go_sem,h2,h3]
 rw [if_pos (by omega)]
 exact .inl (.inl hK)

noncomputable def rq6:Code:=fstC (sndC (sndC (sndC (sndC (sndC (bodyOf Tryd.f12))))))
theorem rq6_eq:rq6 = .region 6 (opsC rq6) false:=by kernel_rfl
theorem rq6_sz:(opsC rq6).size=2:=by kernel_rfl
theorem rq6_0:((opsC rq6)[0]?).map (fun o=>(o.dst,o.op,o.guard))=some (some 23,.move (.tmp 6),none):=by kernel_rfl
theorem rq6_1:((opsC rq6)[1]?).map (fun o=>(o.dst,o.op,o.guard))=some (some 24,.call ⟨.value (.func 28),#[.tmp 23],#[60]⟩,none):=by kernel_rfl

theorem rq6_wp {Q:Exit→Act→World→Prop} {a:Act} {w:World} {u:Value} {S:Ending→World→Prop} (hsz:a.tmps.size=36) (h6:a.tmps.getD 6 undef=u)
  (hS:CtE Tryd.prog 28 #[u] w S)
  (hK:∀e w',S e w'→match e with
   | .returned v=>Q .normal {tmps:=(a.tmps.setIfInBounds 23 u).setIfInBounds 24 v,defers:=a.defers } w'
   | .panicked ch=>Q (.panic ch) {tmps:=a.tmps.setIfInBounds 23 u,defers:=a.defers } w'
   | .outgrown=>False):rq6.wp Tryd.prog Q a w:=by
 rw [rq6_eq]
 refine wp_region ?_
 rw [rq6_sz]
 obtain ⟨t0,p0,a0,h0⟩:=op_of rq6_0
 obtain ⟨t1,p1,a1,h1⟩:=op_of rq6_1
 rw [Array.getD_eq_getD_getElem?] at h6
 simp [List.range,List.range.loop,wpOps,h0,h1,Region.wanted,Oper.wp,execOp,go_sem,h6]
 rw [if_pos (by omega)]
 refine .inl (.inl (hS.2.mono fun e w' he=>?_))
 have:=hK e w' he
 cases e with
 | returned v=>exact this
 | panicked ch=>exact this
 | outgrown=>exact this.elim
end Go.Proofs.YtckbgeedlobfaaaDoor

/-
  Read: its contract; Bad's.
-/
namespace Go.Proofs.YtckbgeedlobfaaaDoor
open Go.Px Go.Px.Scan Go.Px.Spec Go.RowKit
attribute [-go_sem] Builtin.append_

theorem Read_code:bodyOf Tryd.f12 = .seq RqA.code (.seq RqB.code (.seq RqC.code (.seq rq4 (.seq RqD.code (.seq rq6 RqE.code))))):=by kernel_rfl

theorem read_ct {s:ByteArray} {w:World} {B:Nat} (hs:s.size≤maxLen) (hO:Ord w B) (hB:B≤w.heap.size):Ct Tryd.prog spec_read.id #[.string s] w (ReadEnd s w) :=
 ⟨fun args w=>Tryd.call25 args w,callsIn_wide.1 (read_calls hs hO hB)⟩

theorem Bad_ct {s:ByteArray} {w:World} {B:Nat} (hs:s.size≤maxLen) (hO:Ord w B) (hB:B≤w.heap.size):Ct Tryd.prog spec_Bad.id #[.string s] w fun v w'=>v = .int .i64 (badS s)∧Chg noB w w':=by
 refine spec_Bad.ct fun R hR=>?_
 unfold spec_Bad.run
 simp -dsimp [go_sem]
 refine CALL_of (read_ct hs hO hB) ?_
 rintro _ w2 ⟨hc,b,rfl,_⟩
 unfold spec_Bad.b1_1
 simp -dsimp [go_sem]
 exact hR _ _ ⟨rfl,hc⟩

/-- all, among other pieces. -/
theorem all_ctS {L:List Ch} {W w:World} {G:Nat→Prop} {bm bb b c i:Nat} {A:Option Addr} {ws:List Wd} {e:Int} {hs:List (Nat×List ByteArray)} {st:ByteArray} {ls:List ByteArray} {rs:List RowS} {D:RD} (mb:MB hs rs st) (hD:Rb ws i hs ls rs D)
  (s:St G W w (L++[boxC bm 64 [.pointer (some ⟨bb,0,none⟩),.pointer (some ⟨b,0,none⟩)],bldC bb S0]++rdL b A c ws e i hs st ls rs D)) :
  CtE Tryd.prog spec_maker_all.id #[.pointer (some ⟨bm,0,none⟩)] w fun r w' =>
   (∃S',allM hs ls rs st = .ok S'∧r = .returned (.tuple #[])∧St G W w' (L++[boxC bm 64 [.pointer (some ⟨bb,0,none⟩),.pointer (some ⟨b,0,none⟩)],bldC bb S'])) ∨
   (∃e,allM hs ls rs st = .error e∧r = .panicked (errP e)∧St G W w' L):=by
 rw [List.append_assoc] at s
 have s1:=s.unflat
 obtain ⟨F,ho,hF,hs'⟩:=s1.opn (k:=L.length) (c0:=Ch.all ([boxC bm 64 [.pointer (some ⟨bb,0,none⟩),.pointer (some ⟨b,0,none⟩)],bldC bb S0]++rdL b A c ws e i hs st ls rs D)) (by simp)
 refine (all_ct mb hD (St.enter ho)).mono ?_
 rintro r w' (⟨S',he,rfl,h3⟩ | ⟨x,he,rfl,hc⟩)
 ·refine .inl ⟨S',he,rfl,?_⟩
  have:=hs' w' (Ch.all [boxC bm 64 [.pointer (some ⟨bb,0,none⟩),.pointer (some ⟨b,0,none⟩)],bldC bb S']) h3.chg h3.leave
  refine St.flat ?_
  simpa using this
 ·refine .inr ⟨x,he,rfl,?_⟩
  have:=(hs' w' Ch.emp hc trivial).take L.length
  simpa using this

/-- Behind the tail. -/
theorem Read_leave {s:ByteArray} {w w1:World} {tm:Array Value} {q2 q3:Nat} {u:FrameMode} {e:Int}
  (h2:tm.getD 2 undef = .pointer (some ⟨q2,0,none⟩)) (h3:tm.getD 3 undef = .pointer (some ⟨q3,0,none⟩))
  (hu:u = .returning∧FinR w w1 q2 q3 (readG s).1 (readG s).2.1 (readG s).2.2∨u = .panicking (errP e)∧readG s=(gz,e,0)∧St noB w w1 [boxC q2 28 zG,boxC q3 31 zM]) :
  LeavesInM Fence.wide 3 Tryd.prog Tryd.f12 tm (RT (RdAns s w)) [{target := .fn (.func 26) #[.pointer (some ⟨q2,0,none⟩),.pointer (some ⟨q3,0,none⟩)],args:=#[] }] u w1:=by
 have fin:∀w2,FinR w w2 q2 q3 (readG s).1 (readG s).2.1 (readG s).2.2→LeavesInM Fence.wide 3 Tryd.prog Tryd.f12 tm (RT (RdAns s w)) [] .returning w2:=fun w2 hF=>by
  obtain ⟨vg,hr,hn⟩:=hF.ans h2 h3
  exact ⟨_,hr,vg,rfl,hn⟩
 refine ⟨by rcases hu with ⟨rfl,_⟩ | ⟨rfl,_⟩ <;> simp,.inr ⟨fun h=>by simp [Fence.wide] at h,.func 26,#[.pointer (some ⟨q2,0,none⟩),.pointer (some ⟨q3,0,none⟩)],26,#[.pointer (some ⟨q2,0,none⟩),.pointer (some ⟨q3,0,none⟩)],rfl,?_,fun g hg=>trivial,?_⟩⟩
 ·simp [invoke,go_sem]
 ·refine rec2_callsD (w:=w) (e:=e) ?_
  rcases hu with ⟨rfl,hF⟩ | ⟨rfl,hG,s1⟩
  ·exact .inl ⟨rfl,fin _ hF⟩
  ·refine .inr ⟨rfl,s1,fun w2 s2=>?_⟩
   refine fin _ ?_
   rw [hG]
   exact FinR.zero s2

theorem Read_body {s:ByteArray} {w:World} {B:Nat} {tm:Array Value} (hs:s.size≤maxLen) (hO:Ord w B) (hB:B≤w.heap.size) (hsz:tm.size=36) (h0:tm.getD 0 undef=Value.string s) :
  (bodyOf Tryd.f12).wp Tryd.prog (bodyPostM Fence.wide 3 Tryd.prog Tryd.f12 (RT (RdAns s w))) {tmps:=tm,defers:=[] } w:=by
 rw [Read_code]
 have hr0:Rel 36 {tmps:=tm,defers:=[] } (fun n=>tm.getD n undef):=⟨hsz,fun _=>rfl,rfl⟩
 refine wp_seq (part_use (RqA.part_wp hr0 (R:=RS fun vs w'=>∃q2 q3,vs=#[Value.string s,.pointer (some ⟨q2,0,none⟩),.pointer (some ⟨q3,0,none⟩)]∧St noB w w' [boxC q2 28 zG,boxC q3 31 zM]) ?_) ?_)
 ·show RqA.b1 _ (tm.getD 0 undef) w
  rw [h0]
  exact rqA_run fun w' q2 q3 s1=>⟨q2,q3,rfl,s1⟩
 rintro a1 ρ1 w1 r1 ⟨q2,q3,hv,s1⟩
 injection hv with hv;injection hv with e0 hv;injection hv with e2 hv;injection hv with e3 _
 refine wp_seq (part_use (RqB.part_wp r1 (R:=RS fun vs w'=>∃b,vs=#[Value.pointer (some ⟨q2,0,none⟩),.pointer (some ⟨q3,0,none⟩),.pointer (some ⟨b,0,none⟩),.int .i64 (badS s)]∧St noB w w' [boxC q2 28 zG,boxC q3 31 zM] ∧
   (badS s<0→∃A c hs st rl ls rs,goM m0 (wordsS s).1=(⟨9,hs,st,rl,ls,rs⟩,[])∧St noB w w' [boxC q2 28 zG,boxC q3 31 zM,rdC b A c (wordsS s).1 (endS s) (wordsS s).1.length hs st ls rs])) ?_) ?_)
 ·show RqB.b1 _ (ρ1 0) (ρ1 2) (ρ1 3) w1
  rw [e0,e2,e3]
  unfold RqB.b1
  refine CALL_of (read_ct hs (hO.chg s1.chg hB (fun _ _=>id)) (Nat.le_trans hB s1.chg.size)) ?_
  rintro _ w2 ⟨hc,b,rfl,hL⟩
  unfold RqB.b1_1
  simp -dsimp [go_sem]
  refine ⟨b,rfl,s1.old hc,fun hneg=>?_⟩
  obtain ⟨A,c,hs',st,rl,ls,rs,g1,_,g3⟩:=hL hneg
  exact ⟨A,c,hs',st,rl,ls,rs,g1,s1.seq g3⟩
 clear s1 e0 e2 e3 hr0
 rintro a2 ρ2 w2 r2 ⟨b,hv,s2,hL⟩
 injection hv with hv;injection hv with e2 hv;injection hv with e3 hv;injection hv with e4 hv;injection hv with e5 _
 refine wp_seq (wp_mono (RqC.part_wp r2 (R:=fun e w'=>(e = .returned (.agg #[.pointer (some ⟨q2,0,none⟩),.pointer (some ⟨q3,0,none⟩)])∧0≤badS s∧FinR w w' q2 q3 gz 10 (badS s)) ∨
   (e = .returned (.tuple #[.pointer (some ⟨q2,0,none⟩),.pointer (some ⟨q3,0,none⟩),.pointer (some ⟨b,0,none⟩),.int .i64 (badS s)])∧¬0≤badS s∧w'=w2)) ?_) ?_)
 ·show RqC.b1 _ (ρ2 2) (ρ2 3) (ρ2 4) (ρ2 5) w2
  rw [e2,e3,e4,e5]
  exact rqC_run s2 (fun h w' hF => .inl ⟨rfl,h,hF⟩) (fun h => .inr ⟨rfl,h,rfl⟩)
 clear e2 e3 e4 e5 r1
 rintro e a3 w3 hp
 cases e with
 | ret =>
  obtain ⟨ρ3,r3,(⟨hv,hb,hF⟩ | ⟨hv,_⟩)⟩:=hp
  ·injection hv with hv;injection hv with hv;injection hv with hv;injection hv with f2 hv;injection hv with f3 _
   show LeavesInM _ _ _ _ _ _ _ _ _
   rw [r3.defers]
   obtain ⟨vg,hr,hn⟩:=hF.ans ((r3.get 2).trans f2) ((r3.get 3).trans f3)
   exact ⟨_,hr,vg,by rw [readG_bad hb],by rw [readG_bad hb];exact hn⟩
  ·cases hv
 | panic ch=>obtain ⟨_,(⟨h,_⟩ | ⟨h,_⟩)⟩:=hp <;> cases h
 | exit k=>obtain ⟨_,_,h⟩:=hp;exact h.elim
 | goto k=>obtain ⟨_,_,h⟩:=hp;exact h.elim
 | outgrown=>obtain ⟨_,_,h⟩:=hp;exact h.elim
 | normal =>
  obtain ⟨ρ3,r3,(⟨hv,_⟩ | ⟨hv,hnb,rfl⟩)⟩:=hp
  ·cases hv
  clear hO hB h0 hsz
  injection hv with hv;injection hv with hv;injection hv with hv;injection hv with e2 hv;injection hv with e3 hv;injection hv with e4 hv;injection hv with e5 _
  obtain ⟨A,c,hs',st,rl,ls,rs,hg,s3⟩:=hL (by omega)
  refine wp_seq (rq4_wp r3.size ((r3.get 2).trans e2) ((r3.get 3).trans e3) ?_)
  have g6:=r3.size
  have g2:=(r3.get 2).trans e2
  have g3:=(r3.get 3).trans e3
  have g4:=(r3.get 4).trans e4
  have gd:=r3.defers
  clear r3 e2 e3 e4 e5 r2
  obtain ⟨tm6,d6⟩:=a3
  simp only at g6 g2 g3 g4 gd
  subst gd
  have u2:(tm6.setIfInBounds 18 (.func (.func 26) #[] #[.pointer (some ⟨q2,0,none⟩),.pointer (some ⟨q3,0,none⟩)])).getD 2 undef = .pointer (some ⟨q2,0,none⟩):=by
   rw [←g2];simp [Array.getD_eq_getD_getElem?]
  have u3:(tm6.setIfInBounds 18 (.func (.func 26) #[] #[.pointer (some ⟨q2,0,none⟩),.pointer (some ⟨q3,0,none⟩)])).getD 3 undef = .pointer (some ⟨q3,0,none⟩):=by
   rw [←g3];simp [Array.getD_eq_getD_getElem?]
  have u4:(tm6.setIfInBounds 18 (.func (.func 26) #[] #[.pointer (some ⟨q2,0,none⟩),.pointer (some ⟨q3,0,none⟩)])).getD 4 undef = .pointer (some ⟨b,0,none⟩):=by
   rw [←g4];simp [Array.getD_eq_getD_getElem?]
  have uz:(tm6.setIfInBounds 18 (.func (.func 26) #[] #[.pointer (some ⟨q2,0,none⟩),.pointer (some ⟨q3,0,none⟩)])).size=36:=by simpa using g6
  revert u2 u3 u4 uz
  generalize tm6.setIfInBounds 18 (.func (.func 26) #[] #[.pointer (some ⟨q2,0,none⟩),.pointer (some ⟨q3,0,none⟩)])=tm7
  intro u2 u3 u4 uz
  clear g2 g3 g4 g6
  have mb:=goM_mb hg
  refine wp_seq (part_use (RqD.part_wp (ρ:=fun n=>tm7.getD n undef) (D:=[{target := .fn (.func 26) #[.pointer (some ⟨q2,0,none⟩),.pointer (some ⟨q3,0,none⟩)],args:=#[] }]) ⟨uz,fun _=>rfl,rfl⟩
   (R:=RS fun vs w'=>∃bb bm,vs=#[Value.pointer (some ⟨q2,0,none⟩),.pointer (some ⟨q3,0,none⟩),.pointer (some ⟨bm,0,none⟩)] ∧
    St noB w w' ([boxC q2 28 zG,boxC q3 31 zM,rdC b A c (wordsS s).1 (endS s) (wordsS s).1.length hs' st ls rs]++[bldC bb S0]++[boxC bm 64 [.pointer (some ⟨bb,0,none⟩),.pointer (some ⟨b,0,none⟩)]])) ?_) ?_)
  ·show RqD.b1 _ (tm7.getD 2 undef) (tm7.getD 3 undef) (tm7.getD 4 undef) w3
   rw [u2,u3,u4]
   exact rqD_run s3 fun w' bb bm s4=>⟨bb,bm,rfl,s4⟩
  clear s3 u2 u3 u4 uz
  rintro a4 ρ4 w4 r4 ⟨bb,bm,hv,s4⟩
  injection hv with hv;injection hv with e2 hv;injection hv with e3 hv;injection hv with e6 _
  obtain ⟨D,hB',hst,s5⟩:=rdC_open (L:=[boxC q2 28 zG,boxC q3 31 zM,boxC bm 64 [.pointer (some ⟨bb,0,none⟩),.pointer (some ⟨b,0,none⟩)],bldC bb S0]) (s4.pick [0,1,4,3,2] (by decide) rfl)
    -- the callee's pieces, apart
  have g6:=r4.size
  have g2:=(r4.get 2).trans e2
  have g3:=(r4.get 3).trans e3
  have g66:=(r4.get 6).trans e6
  have gd:=r4.defers
  clear r4 e2 e3 e6 s4
  obtain ⟨tm8,d8⟩:=a4
  simp only at g6 g2 g3 g66 gd
  subst gd
  refine wp_seq (rq6_wp (a:=⟨tm8,_⟩) g6 g66 (all_ctS mb hB' (L:=[boxC q2 28 zG,boxC q3 31 zM]) s5) ?_)
  rintro e w7 (⟨S',he,rfl,s7⟩ | ⟨x,he,rfl,s7⟩)
  ·have v2:((tm8.setIfInBounds 23 (.pointer (some ⟨bm,0,none⟩))).setIfInBounds 24 (.tuple #[])).getD 2 undef = .pointer (some ⟨q2,0,none⟩):=by
    rw [←g2];simp [Array.getD_eq_getD_getElem?]
   have v3:((tm8.setIfInBounds 23 (.pointer (some ⟨bm,0,none⟩))).setIfInBounds 24 (.tuple #[])).getD 3 undef = .pointer (some ⟨q3,0,none⟩):=by
    rw [←g3];simp [Array.getD_eq_getD_getElem?]
   have v6:((tm8.setIfInBounds 23 (.pointer (some ⟨bm,0,none⟩))).setIfInBounds 24 (.tuple #[])).getD 6 undef = .pointer (some ⟨bm,0,none⟩):=by
    rw [←g66];simp [Array.getD_eq_getD_getElem?]
   have vz:((tm8.setIfInBounds 23 (.pointer (some ⟨bm,0,none⟩))).setIfInBounds 24 (.tuple #[])).size=36:=by simpa using g6
   revert v2 v3 v6 vz
   show _→_→_→_→RqE.code.wp _ _ _ _
   generalize (tm8.setIfInBounds 23 (.pointer (some ⟨bm,0,none⟩))).setIfInBounds 24 (.tuple #[])=tm9
   intro v2 v3 v6 vz
   have hrd:=readG_ok hnb hg he
   refine wp_mono (RqE.part_wp (ρ:=fun n=>tm9.getD n undef) (D:=[{target := .fn (.func 26) #[.pointer (some ⟨q2,0,none⟩),.pointer (some ⟨q3,0,none⟩)],args:=#[] }]) ⟨vz,fun _=>rfl,rfl⟩
    (R:=fun e w'=>e = .returned (.agg #[.pointer (some ⟨q2,0,none⟩),.pointer (some ⟨q3,0,none⟩)])∧FinR w w' q2 q3 (readG s).1 (readG s).2.1 (readG s).2.2) ?_) ?_
   ·show RqE.b1 _ (tm9.getD 2 undef) (tm9.getD 3 undef) (tm9.getD 6 undef) w7
    rw [v2,v3,v6]
    refine rqE_run s7 fun w' hF=>⟨rfl,?_⟩
    rw [hrd]
    cases ht:toldB S' with
    | true=>rw [ht] at hF;exact hF
    | false=>rw [ht] at hF;exact hF
   ·rintro e a' w' hp
    cases e with
    | normal=>obtain ⟨ρ,_,h,_⟩:=hp;cases h
    | ret =>
     obtain ⟨ρ,hr,hv,hF⟩:=hp
     injection hv with hv;injection hv with hv;injection hv with hv;injection hv with f2 hv;injection hv with f3 _
     show LeavesInM _ _ _ _ _ _ _ _ _
     rw [hr.defers]
     exact Read_leave (e:=0) ((hr.get 2).trans f2) ((hr.get 3).trans f3) (.inl ⟨rfl,hF⟩)
    | panic ch=>obtain ⟨_,h,_⟩:=hp;cases h
    | exit k=>obtain ⟨_,_,h⟩:=hp;exact h.elim
    | goto k=>obtain ⟨_,_,h⟩:=hp;exact h.elim
    | outgrown=>obtain ⟨_,_,h⟩:=hp;exact h.elim
  ·have v2:(tm8.setIfInBounds 23 (.pointer (some ⟨bm,0,none⟩))).getD 2 undef = .pointer (some ⟨q2,0,none⟩):=by
    rw [←g2];simp [Array.getD_eq_getD_getElem?]
   have v3:(tm8.setIfInBounds 23 (.pointer (some ⟨bm,0,none⟩))).getD 3 undef = .pointer (some ⟨q3,0,none⟩):=by
    rw [←g3];simp [Array.getD_eq_getD_getElem?]
   show LeavesInM _ _ _ _ _ _ _ _ _
   exact Read_leave v2 v3 (.inr ⟨rfl,readG_err hnb hg he,s7⟩)

theorem Read_calls {s:ByteArray} {w:World} {B:Nat} (hs:s.size≤maxLen) (hO:Ord w B) (hB:B≤w.heap.size):CallsIn Fence.wide 3 Tryd.prog spec_Read.id #[.string s] w (RT (RdAns s w)):=by
 refine callsIn_of_wp_marks Tryd.func12 rfl trivial ?_ rfl
 refine wpIn_wide.2 ?_
 exact Read_body hs hO hB (by simp) (by simp [Array.getD])

theorem Read_ct {s:ByteArray} {w:World} {B:Nat} (hs:s.size≤maxLen) (hO:Ord w B) (hB:B≤w.heap.size):Ct Tryd.prog spec_Read.id #[.string s] w (RdAns s w) :=
 ⟨fun args w=>Tryd.call12 args w,callsIn_wide.1 (Read_calls hs hO hB)⟩
end Go.Proofs.YtckbgeedlobfaaaDoor

/-
  The maker's whole text, plainly.
-/
namespace Go.Px.Spec
open Go.Px Go.Px.Scan
/-- Like More, but rules may have come. -/
structure Mor (S S':BS):Prop where
 terms:∃r,S'.terms=S.terms++r∧∀x∈r,x.2=0
 nons:Ext S.nons S'.nons
 lev:S'.levels=S.levels
 rules:∃r,S'.rules=S.rules++r
 start:S'.start=S.start
theorem More.mor {S S':BS} (h:More S S'):Mor S S':=⟨h.terms,h.nons,h.lev,⟨[],by rw [h.rules];simp⟩,h.start⟩
theorem Mor.refl (S:BS):Mor S S:=(More.refl S).mor
theorem Mor.trans {A B C:BS} (h:Mor A B) (k:Mor B C):Mor A C:=by
 obtain ⟨r,h1,h2⟩:=h.terms
 obtain ⟨q,k1,k2⟩:=k.terms
 obtain ⟨a,ha⟩:=h.rules
 obtain ⟨b,hb⟩:=k.rules
 refine ⟨⟨r++q,by rw [k1,h1];simp,fun x hx=>?_⟩,h.nons.trans k.nons,k.lev.trans h.lev,⟨a++b,by rw [hb,ha];simp⟩,k.start.trans h.start⟩
 rcases List.mem_append.1 hx with hx | hx
 ·exact h2 x hx
 ·exact k2 x hx
theorem Mor.ext {S S':BS} (h:Mor S S'):Ext (S.terms.map (·.1)) (S'.terms.map (·.1)):=by
 obtain ⟨r,h1,_⟩:=h.terms;exact ⟨r.map (·.1),by rw [h1];simp⟩
theorem Mor.Q {S S':BS} (h:Mor S S') (hq:Q S'):Q S:=by
 obtain ⟨r,h1,_⟩:=h.terms
 obtain ⟨q,h2⟩:=h.nons
 obtain ⟨a,ha⟩:=h.rules
 have h3:=hq.1
 have h4:=hq.2
 rw [h1,h2] at h3
 rw [ha] at h4
 simp at h3 h4
 exact ⟨by omega,by omega⟩
theorem Mor.inW {S S':BS} (h:Mor S S') {ls:List ByteArray} {w:Wd} (hw:inW ls S w):inW ls S' w:=by
 unfold Spec.inW at hw ⊢
 split
 ·rename_i h1;rw [if_pos h1] at hw;exact h.nons.mem hw
 ·rename_i h1;rw [if_neg h1] at hw;exact h.ext.mem hw
theorem Mor.hW {S S':BS} (h:Mor S S') {ls:List ByteArray} {w:Wd} (hw:Spec.inW ls S w):hW ls S' w=hW ls S w:=by
 unfold Spec.inW at hw
 unfold Spec.hW
 split
 ·rename_i h1;rw [if_pos h1] at hw;rw [h.nons.posH hw]
 ·rename_i h1;rw [if_neg h1] at hw;rw [h.ext.posH hw]
end Go.Px.Spec
namespace Go.Proofs.YtckbgeedlobfaaaDoor
open Go.Px Go.Px.Scan Go.Px.Spec Go.RowKit

theorem mor_grade {S S':BS} (h:Mor S S') (k:Int):gradeOf S' k=gradeOf S k:=by obtain ⟨r,h1,h2⟩:=h.terms;exact grade_app h1 h2 k
theorem mor_ruleL {S S':BS} (h:Mor S S') (l:List Int):ruleL S' l=ruleL S l:=by
 unfold ruleL
 congr 1
 funext a k
 rw [mor_grade h]
theorem Mor.row (ls:List ByteArray) (S:BS) (r:RowS):Mor S (rowS ls S r):=by
 have h:=More.syms ls S r
 exact ⟨h.terms,h.nons,h.lev,⟨[_],rfl⟩,h.start⟩
theorem Mor.rows (ls:List ByteArray) (l:List RowS):∀S:BS,Mor S (l.foldl (rowS ls) S):=by
 induction l with
 | nil=>exact Mor.refl
 | cons r l ih=>exact fun S=>(Mor.row ls S r).trans (ih _)

theorem run_rows {ls:List ByteArray} {lv:Int→Int} {k:Nat} (l:List RowS):∀{S:BS},(∀h,1≤h→lv h=gradeOf S h)→(∀h,0≤gradeOf S h∧gradeOf S h≤S.levels.length)→(∀r∈l,RI WP k r∧Sd r)→Q S →
  Run (l.foldlM (rowF ls lv) S) (Q (l.foldl (rowS ls) S)) (l.foldl (rowS ls) S):=by
 induction l with
 | nil=>intro S _ _ _ hq;exact .inl ⟨hq,rfl⟩
 | cons r l ih =>
  intro S hlv hlo hr hq
  rw [List.foldlM_cons,List.foldl_cons]
  have m:=Mor.row ls S r
  refine Run.bind (run_row hlv hlo (hr r (by simp)).1 (hr r (by simp)).2 hq) (fun hq2=>?_) (Mor.rows ls l _).Q
  refine ih (fun h hh=>by rw [hlv h hh,mor_grade m]) (fun h=>?_) (fun x hx=>hr x (by simp [hx])) hq2
  rw [mor_grade m,m.lev];exact hlo h

/-! ### What is there behind the rows -/
theorem syms_has {ls:List ByteArray} {S:BS} {r:RowS}:r.left∈(symsS ls S r).nons∧(∀w∈r.words,inW ls (symsS ls S r) w)∧(r.by_≠noT→r.by_∈(symsS ls S r).terms.map (·.1)):=by
 have m1:=More.fold ls r.words (addN S r.left)
 have hl:=m1.nons.mem (mem_addN S r.left)
 have hw:=in_fold (ls:=ls) r.words (addN S r.left)
 unfold symsS
 simp only
 by_cases hb:r.by_=noT
 ·rw [if_pos hb];exact ⟨hl,hw,fun h=>absurd hb h⟩
 ·rw [if_neg hb]
  have m:=More.addT (r.words.foldl (stepW ls) (addN S r.left)) r.by_
  exact ⟨m.nons.mem hl,fun w h=>m.inW (hw w h),fun _=>mem_addT _ _⟩

theorem ruleOf_mor {ls:List ByteArray} {S S':BS} {r:RowS} (m:Mor S S') (h:r.left∈S.nons∧(∀w∈r.words,inW ls S w)∧(r.by_≠noT→r.by_∈S.terms.map (·.1))):ruleOf ls S' r=ruleOf ls S r:=by
 have hmap:r.words.map (hW ls S')=r.words.map (hW ls S):=List.map_congr_left fun w hw=>m.hW (h.2.1 w hw)
 unfold ruleOf levR
 rw [m.nons.posH h.1,hmap,mor_ruleL m]
 by_cases hb:r.by_=noT
 ·simp only [hb,ne_eq,not_true,if_false]
 ·rw [m.ext.posH (h.2.2 hb),mor_grade m]

theorem rows_rules {ls:List ByteArray} {S:BS} (l:List RowS):(l.foldl (rowS ls) S).rules=S.rules++l.map (ruleOf ls (l.foldl (rowS ls) S)):=by
 have key:∀(n:Nat) (l:List RowS),l.length=n→(l.foldl (rowS ls) S).rules=S.rules++l.map (ruleOf ls (l.foldl (rowS ls) S))∧∀r∈l,(r.left∈(l.foldl (rowS ls) S).nons∧(∀w∈r.words,inW ls (l.foldl (rowS ls) S) w)∧(r.by_≠noT→r.by_∈(l.foldl (rowS ls) S).terms.map (·.1))):=fun n=>by
  induction n with
  | zero=>intro l hl;rw [List.length_eq_zero_iff.1 hl];simp
  | succ n ih =>
   intro l hl
   rcases List.eq_nil_or_concat l with e | ⟨a,r,e⟩
   ·rw [e] at hl;simp at hl
   ·have e':l=a++[r]:=by simpa using e
    subst e'
    obtain ⟨h1,h2⟩:=ih a (by simpa using hl)
    rw [List.foldl_append,List.foldl_cons,List.foldl_nil]
    generalize a.foldl (rowS ls) S=T at *
    have m:=Mor.row ls T r
    have ms:Mor (symsS ls T r) (rowS ls T r):=⟨⟨[],by simp [rowS],by simp⟩,Ext.refl _,rfl,⟨[ruleOf ls (symsS ls T r) r],by simp [rowS,(More.syms ls T r).rules]⟩,rfl⟩
    have hs:=syms_has (ls:=ls) (S:=T) (r:=r)
    refine ⟨?_,fun x hx=>?_⟩
    ·have e1:a.map (ruleOf ls (rowS ls T r))=a.map (ruleOf ls T):=List.map_congr_left fun x hx=>ruleOf_mor m (h2 x hx)
     rw [List.map_append,e1,List.map_singleton,ruleOf_mor ms hs]
     show T.rules++_=_
     rw [h1,List.append_assoc]
    ·rcases List.mem_append.1 hx with hx | hx
     ·obtain ⟨k1,k2,k3⟩:=h2 x hx
      exact ⟨m.nons.mem k1,fun w hw=>m.inW (k2 w hw),fun hb=>m.ext.mem (k3 hb)⟩
     ·rw [List.mem_singleton.1 hx]
      exact hs
 exact (key _ l rfl).1

theorem rows_has {ls:List ByteArray} {S:BS} (l:List RowS):∀r∈l,(r.left∈(l.foldl (rowS ls) S).nons∧(∀w∈r.words,inW ls (l.foldl (rowS ls) S) w)∧(r.by_≠noT→r.by_∈(l.foldl (rowS ls) S).terms.map (·.1))):=by
 induction l generalizing S with
 | nil=>intro r hr;cases hr
 | cons x l ih =>
  intro r hr
  rw [List.foldl_cons]
  rcases List.mem_cons.1 hr with rfl | hr
  ·have hs:=syms_has (ls:=ls) (S:=S) (r:=r)
   have ms:Mor (symsS ls S r) (rowS ls S r):=⟨⟨[],by simp [rowS],by simp⟩,Ext.refl _,rfl,⟨[ruleOf ls (symsS ls S r) r],by simp [rowS,(More.syms ls S r).rules]⟩,rfl⟩
   have m:=ms.trans (Mor.rows ls l (rowS ls S r))
   exact ⟨m.nons.mem hs.1,fun w hw=>m.inW (hs.2.1 w hw),fun hb=>m.ext.mem (hs.2.2 hb)⟩
  ·exact ih r hr

/-- The terminals behind the rows. -/
theorem syms_terms {ls:List ByteArray} {S:BS} {r:RowS} (hsd:Sd r):(symsS ls S r).terms=numF ls S.terms r:=by
 have h1:∀(l:List Wd) (S:BS),(l.foldl (stepW ls) S).terms=((l.filter fun w => !isNonX ls w).map (·.2.1)).foldl (fun u t=>putT u t 0) S.terms:=fun l=>by
  induction l with
  | nil=>intro S;rfl
  | cons w l ih =>
   intro S
   rw [List.foldl_cons,ih]
   unfold stepW
   by_cases h:isNonX ls w=true
   ·rw [if_pos h,List.filter_cons_of_neg (by simp [h]),(addN_other S _).1]
   ·rw [if_neg h,List.filter_cons_of_pos (by simp [h]),List.map_cons,List.foldl_cons,addT_terms]
 unfold numF rowT symsS
 simp only
 rw [List.foldl_append]
 by_cases hb:r.by_=noT
 ·have hs:r.said≠1:=fun h=>by rcases hsd with h2 | h2;exact h2.2 hb;exact h2.1 h
  rw [if_pos hb,if_neg hs,h1,(addN_other S _).1];rfl
 ·have hs:r.said=1:=by rcases hsd with h2 | h2;exact h2.1;exact absurd h2.2 hb
  rw [if_neg hb,if_pos hs,addT_terms,h1,(addN_other S _).1];rfl
theorem rows_terms {ls:List ByteArray} (l:List RowS):∀{S:BS},(∀r∈l,Sd r)→(l.foldl (rowS ls) S).terms=l.foldl (numF ls) S.terms:=by
 induction l with
 | nil=>intro S _;rfl
 | cons r l ih =>
  intro S h
  rw [List.foldl_cons,List.foldl_cons,ih fun x hx=>h x (by simp [hx])]
  show l.foldl (numF ls) (symsS ls S r).terms=_
  rw [syms_terms (h r (by simp))]

/-- The nonterminals behind the rows. -/
theorem rows_nons {ls:List ByteArray} (l:List RowS):∀{S:BS},(∀r∈l,r.left∈ls)→(S.nons.Nodup∧∀x∈S.nons,x∈ls)→((l.foldl (rowS ls) S).nons.Nodup∧∀x∈(l.foldl (rowS ls) S).nons,x∈ls):=by
 have hadd:∀{S:BS} {t:ByteArray},t∈ls→(S.nons.Nodup∧∀x∈S.nons,x∈ls)→((addN S t).nons.Nodup∧∀x∈(addN S t).nons,x∈ls):=fun {S t} ht h=>by
  rw [addN_nons]
  refine ⟨nodup_addB h.1,fun x hx=>?_⟩
  rcases mem_addB.1 hx with hx | rfl
  ·exact h.2 x hx
  ·exact ht
 have hstep:∀{S:BS} {w:Wd},(S.nons.Nodup∧∀x∈S.nons,x∈ls)→((stepW ls S w).nons.Nodup∧∀x∈(stepW ls S w).nons,x∈ls):=fun {S w} h=>by
  unfold stepW
  split
  ·rename_i h1
   refine hadd ?_ h
   unfold isNonX at h1
   simp only [Bool.and_eq_true] at h1
   exact hasB_iff.1 h1.1
  ·rw [(addT_other S _).1];exact h
 have hfold:∀(ws:List Wd) {S:BS},(S.nons.Nodup∧∀x∈S.nons,x∈ls)→((ws.foldl (stepW ls) S).nons.Nodup∧∀x∈(ws.foldl (stepW ls) S).nons,x∈ls):=fun ws=>by
  induction ws with
  | nil=>exact fun h=>h
  | cons w ws ih=>exact fun h=>ih (hstep h)
 induction l with
 | nil=>exact fun _ h=>h
 | cons r l ih =>
  intro S hl h
  rw [List.foldl_cons]
  refine ih (fun x hx=>hl x (by simp [hx])) ?_
  have e:(rowS ls S r).nons=(r.words.foldl (stepW ls) (addN S r.left)).nons:=by
   show (symsS ls S r).nons=_
   unfold symsS
   simp only
   split
   ·rfl
   ·rw [(addT_other _ _).1]
  rw [e]
  exact hfold _ (hadd (hl r (by simp)) h)

theorem nodup_len {a b:List ByteArray} (ha:a.Nodup) (hb:b.Nodup) (h:∀x,x∈a↔x∈b):a.length=b.length :=
 Nat.le_antisymm (nodup_le ha fun x hx=>(h x).1 hx) (nodup_le hb fun x hx=>(h x).2 hx)

/-- All that the maker leaves. -/
noncomputable def allS_ (m:Mc):BS :=
 let S:=m.rows.foldl (rowS m.lefts) (Sof m.heads)
 {S with start:=if m.start=noT then 0 else -posH S.nons m.start }

theorem Sof_lo (hs:List (Nat×List ByteArray)) (h:Int):0≤gradeOf (Sof hs) h∧gradeOf (Sof hs) h≤(Sof hs).levels.length:=by
 unfold gradeOf
 cases e:(Sof hs).terms[(h-1).toNat]? with
 | none=>simp
 | some x=>exact ⟨(hTl_good hs).1 x (List.mem_of_getElem? e),hTl_hi hs x (List.mem_of_getElem? e)⟩

theorem run_all {k:Nat} {m:Mc} (mi:MI WP k m) (h9:endOk m=true):Run (allM m.heads m.lefts m.rows m.start) (Q (allS_ m)) (allS_ m):=by
 have hph:m.ph=9∧(m.start=noT∨hasB m.lefts m.start=true):=by simpa [endOk] using h9
 have h6:=mi.ord6 (by omega)
 have hlr:∀x,x∈m.lefts↔x∈m.rows.map (·.left):=fun x=>by rw [←mem_dd,←h6.1,mem_dd]
 have hT:∀x∈m.heads,∀t∈x.2,TermP t:=fun x hx t ht=>(mi.tx x hx t ht).term
 obtain ⟨lv,h1,h2⟩:=run_heads mi.hok hT (mi.ne2 (by omega))
 have hrows:∀r∈m.rows,RI WP k r∧Sd r:=fun r hr=>⟨mi.ri r hr,mi.sd2 (by omega) r hr⟩
 have hmor:=Mor.rows m.lefts m.rows (Sof m.heads)
 have hQ:Q (allS_ m)↔Q (m.rows.foldl (rowS m.lefts) (Sof m.heads)):=Iff.rfl
 unfold allM
 refine Run.bind h2 (fun hq=>?_) (fun h=>hmor.Q (hQ.1 h))
 refine Run.bind (run_rows m.rows h1 (Sof_lo m.heads) hrows hq) (fun hq2=>?_) hQ.1
 unfold startF allS_
 by_cases hs:m.start=noT
 ·simp only [if_pos hs]
  refine .inl ⟨hq2,?_⟩
  show Except.ok _=Except.ok _
  congr 1
  have:(m.rows.foldl (rowS m.lefts) (Sof m.heads)).start=0:=hmor.start
  rw [←this]
 ·simp only [if_neg hs]
  have hin:m.start∈m.lefts:=by
   rcases hph.2 with h | h
   ·exact absurd h hs
   ·exact hasB_iff.1 h
  obtain ⟨r,hr,hrl⟩:=List.mem_map.1 ((hlr _).1 hin)
  have hN:m.start∈(m.rows.foldl (rowS m.lefts) (Sof m.heads)).nons:=by rw [←hrl];exact (rows_has m.rows r hr).1
  have hname:NameP m.start:=(mi.lefts _ hin).name
  generalize m.rows.foldl (rowS m.lefts) (Sof m.heads)=SN at *
  have he:addN SN m.start=SN:=by unfold addN;rw [if_pos (hasB_iff.2 hN)]
  have hr2:=run_non hname hq2
  rw [he] at hr2
  refine Run.bind hr2 (fun _=>?_) id
  rw [isN_of hN,if_pos rfl]
  exact .inl ⟨hq2,rfl⟩
end Go.Proofs.YtckbgeedlobfaaaDoor

/-
  What the maker tells is what the document tells.
-/
namespace Go.Px.Spec
open Go.Px Go.Px.Scan

theorem nonX_dd (ls:List ByteArray):isNonX (dd ls)=isNonX ls:=by
 funext w
 unfold isNonX
 have:hasB (dd ls) w.2.1=hasB ls w.2.1:=by rw [Bool.eq_iff_iff,hasB_iff,hasB_iff,mem_dd]
 rw [this]
theorem rowT_dd (ls:List ByteArray):rowT (dd ls)=rowT ls:=by funext r;unfold rowT;rw [nonX_dd]
theorem numF_dd (ls:List ByteArray):numF (dd ls)=numF ls:=by funext ts r;unfold numF;rw [rowT_dd]
theorem rowT_ne {k:Nat} {ls:List ByteArray} {r:RowS} (h:RI WP k r) (hsd:Sd r):∀t∈rowT ls r,TermP t:=by
 intro t ht
 unfold rowT at ht
 rcases List.mem_append.1 ht with ht | ht
 ·obtain ⟨w,hw,rfl⟩:=List.mem_map.1 ht
  have:=h.wx w (List.mem_filter.1 hw).1
  exact Tm.term ⟨w,this.1,this.2,rfl⟩
 ·split at ht
  ·rename_i h1
   rw [List.mem_singleton.1 ht]
   rcases h.by_ with e | e
   ·rcases hsd with h2 | h2
    ·exact absurd e h2.2
    ·exact absurd h1 h2.1
   ·exact e.term
  ·cases ht
theorem numF_cons {ls:List ByteArray} {r:RowS} (h:∀t∈rowT ls r,TermP t) (ts:List (ByteArray×Int)):numF ls ((noT,0)::ts) r=(noT,0)::numF ls ts r:=by
 unfold numF
 have:∀(l:List ByteArray),(∀t∈l,TermP t)→∀ts:List (ByteArray×Int),l.foldl (fun u t=>putT u t 0) ((noT,0)::ts)=(noT,0)::l.foldl (fun u t=>putT u t 0) ts:=fun l=>by
  induction l with
  | nil=>intro _ ts;rfl
  | cons t l ih =>
   intro hl ts
   rw [List.foldl_cons,List.foldl_cons,putT_cons 0 (show t≠(noT,(0:Int)).1 from noT_size (hl t (by simp)).1),ih fun x hx=>hl x (by simp [hx])]
 exact this _ h ts
theorem foldN_cons {ls:List ByteArray} {l:List RowS}:(∀r∈l,∀t∈rowT ls r,TermP t)→∀ts:List (ByteArray×Int),l.foldl (numF ls) ((noT,0)::ts)=(noT,0)::l.foldl (numF ls) ts:=by
 induction l with
 | nil=>intro _ ts;rfl
 | cons r l ih =>
  intro h ts
  rw [List.foldl_cons,List.foldl_cons,numF_cons (h r (by simp)),ih fun x hx=>h x (by simp [hx])]
/-- Names of terminals that were put. -/
theorem foldN_term {ls:List ByteArray} {l:List RowS}:(∀r∈l,∀t∈rowT ls r,TermP t)→∀{ts:List (ByteArray×Int)},(∀t∈ts.map (·.1),TermP t)→∀t∈(l.foldl (numF ls) ts).map (·.1),TermP t:=by
 induction l with
 | nil=>intro _ ts h;exact h
 | cons r l ih =>
  intro h ts hts
  rw [List.foldl_cons]
  refine ih (fun x hx=>h x (by simp [hx])) fun t ht=>?_
  unfold numF at ht
  rw [names_put] at ht
  rcases mem_fold.1 ht with h1 | h1
  ·exact hts t h1
  ·exact h r (by simp) t h1
theorem hTl_term {hs:List (Nat×List ByteArray)} (h:∀x∈hs,∀t∈x.2,TermP t):∀t∈(hTl hs).1.map (·.1),TermP t:=by
 have:∀(hs:List (Nat×List ByteArray)),(∀x∈hs,∀t∈x.2,TermP t)→∀a:List (ByteArray×Int)×List Int,(∀t∈a.1.map (·.1),TermP t)→∀t∈(hs.foldl hstep a).1.map (·.1),TermP t:=fun hs=>by
  induction hs with
  | nil=>intro _ a h;exact h
  | cons h hs ih =>
   intro hT a ha
   rw [List.foldl_cons]
   refine ih (fun x hx=>hT x (by simp [hx])) _ fun t ht=>?_
   unfold hstep at ht
   simp only at ht
   rw [names_put] at ht
   rcases mem_fold.1 ht with h1 | h1
   ·exact ha t h1
   ·exact hT h (by simp) t h1
 exact this hs h _ (by simp)
theorem lv_sides {hs:List (Nat×List ByteArray)} (h:∀x∈hs,x.1≤3):∀x∈(hTl hs).2,0≤x∧x≤3:=by
 have:∀(hs:List (Nat×List ByteArray)),(∀x∈hs,x.1≤3)→∀a:List (ByteArray×Int)×List Int,(∀x∈a.2,0≤x∧x≤3)→∀x∈(hs.foldl hstep a).2,0≤x∧x≤3:=fun hs=>by
  induction hs with
  | nil=>intro _ a h;exact h
  | cons h hs ih =>
   intro hT a ha
   rw [List.foldl_cons]
   refine ih (fun x hx=>hT x (by simp [hx])) _ fun t ht=>?_
   unfold hstep at ht
   simp only at ht
   split at ht
   ·rcases List.mem_append.1 ht with h1 | h1
    ·exact ha t h1
    ·rw [List.mem_singleton.1 h1];have:=hT h (by simp);omega
   ·exact ha t ht
 exact this hs h _ (by simp)
theorem addL_map {f:ByteArray→Int} {a:List ByteArray} {x:ByteArray} (hf:∀y∈a,f y=f x→y=x):addL (a.map f) (f x)=(addB a x).map f:=by
 unfold addL addB
 by_cases h:x∈a
 ·rw [if_pos (List.mem_map.2 ⟨x,h,rfl⟩),if_pos (hasB_iff.2 h)]
 ·have h2:¬f x∈a.map f:=fun h3=>by obtain ⟨y,hy,e⟩:=List.mem_map.1 h3;exact h (hf y hy e ▸ hy)
  rw [if_neg h2,if_neg fun h3=>h (hasB_iff.1 h3)];simp
theorem idx_map {f:ByteArray→Int} {x:ByteArray}:∀{a:List ByteArray},(∀y∈a,f y=f x→y=x)→(a.map f).idxOf (f x)=posN a x:=fun {a}=>by
 induction a with
 | nil=>intro _;rfl
 | cons y a ih =>
  intro h
  rw [List.map_cons,List.idxOf_cons,posN]
  by_cases e:y=x
  ·subst e;simp
  ·have:¬f y=f x:=fun h2=>e (h y (by simp) h2)
   rw [if_neg e,ih fun z hz=>h z (by simp [hz]),show (f y == f x)=false by simpa using this]
   rfl
end Go.Px.Spec

/-
  What Read tells is what the document's Read tells.
-/
namespace Go.Px.Spec
open Go.Px Go.Px.Scan
theorem lefts_fold {f:ByteArray→Int} {g:RowS→Int×List Int×Int} {P:ByteArray→Prop} (hf:∀x y,P x→P y→f x=f y→x=y) (l:List RowS):∀acc:List ByteArray,(∀x∈acc,P x)→(∀r∈l,P r.left∧(g r).1=f r.left) →
  (l.map g).foldl (fun a p=>addL a p.1) (acc.map f)=((l.map (·.left)).foldl addB acc).map f:=by
 induction l with
 | nil=>intro acc _ _;rfl
 | cons r l ih =>
  intro acc ha hl
  have hr:=hl r (by simp)
  rw [List.map_cons,List.map_cons,List.foldl_cons,List.foldl_cons]
  show List.foldl _ (addL (acc.map f) (g r).1) _=_
  rw [hr.2,addL_map fun y hy e=>hf y _ (ha y hy) hr.1 e]
  refine ih _ (fun x hx=>?_) fun x hx=>hl x (by simp [hx])
  rcases mem_addB.1 hx with hx | rfl
  ·exact ha x hx
  ·exact hr.1
/-- What is there at the end of a text. -/
structure FinM (m:Mc):Prop where
 ri:∀r∈m.rows,(∃k,RI WP k r)∧Sd r
 ht:∀x∈m.heads,x.2≠[]∧∀t∈x.2,TermP t
 hd:∀x∈m.heads,x.1≤3
 ln:∀x∈m.lefts,NameP x
 lr:dd (m.rows.map (·.left))=dd m.lefts
 ne:m.rows≠[]
 st:m.start=noT∨m.start∈m.lefts
theorem MI.fin {k:Nat} {m:Mc} (mi:MI WP k m) (h9:endOk m=true):FinM m:=by
 have hph:m.ph=9∧(m.start=noT∨hasB m.lefts m.start=true):=by simpa [endOk] using h9
 have h6:=mi.ord6 (by omega)
 refine ⟨fun r hr=>⟨⟨k,mi.ri r hr⟩,mi.sd2 (by omega) r hr⟩,fun x hx=>⟨mi.ne2 (by omega) x hx,fun t ht=>(mi.tx x hx t ht).term⟩,mi.hok.side,fun x hx=>(mi.lefts x hx).name,h6.1,fun e=>?_,?_⟩
 ·have:=h6.2;rw [e] at this;cases this
 ·rcases hph.2 with h | h
  ·exact Or.inl h
  ·exact Or.inr (hasB_iff.1 h)
end Go.Px.Spec
namespace Go.Proofs.YtckbgeedlobfaaaDoor
open Go.Px Go.Px.Scan Go.Px.Spec Go.RowKit

section
variable {m:Mc}
theorem fin_lr (F:FinM m) (x:ByteArray):x∈m.lefts↔x∈m.rows.map (·.left):=by rw [←mem_dd,←F.lr,mem_dd]
theorem fin_rowT (F:FinM m):∀r∈m.rows,∀t∈rowT m.lefts r,TermP t:=fun r hr=>by
 obtain ⟨⟨k,h1⟩,h2⟩:=F.ri r hr
 exact rowT_ne h1 h2
theorem fin_terms (F:FinM m):(allS_ m).terms=m.rows.foldl (numF m.lefts) (hTl m.heads).1:=rows_terms m.rows fun r hr=>(F.ri r hr).2
theorem fin_ts (F:FinM m):(numX (rxOf m)).ts=(noT,0)::(allS_ m).terms:=by
 show m.rows.foldl (numF (dd m.lefts)) (tmOf m.heads)=_
 have:tmOf m.heads=(noT,0)::(hTl m.heads).1:=by unfold tmOf;rw [hAll_tl fun x hx t ht=>noT_size ((F.ht x hx).2 t ht).1]
 rw [this,numF_dd,foldN_cons (fin_rowT F),fin_terms F]
theorem fin_lv (F:FinM m):(numX (rxOf m)).lv=(allS_ m).levels:=by
 show lvOf m.heads=_
 have h1:lvOf m.heads=(hTl m.heads).2:=by unfold lvOf;rw [hAll_tl fun x hx t ht=>noT_size ((F.ht x hx).2 t ht).1]
 rw [h1]
 exact (Mor.rows m.lefts m.rows (Sof m.heads)).lev.symm
theorem fin_rules:(allS_ m).rules=m.rows.map (ruleOf m.lefts (allS_ m)):=by
 have:=rows_rules (ls:=m.lefts) (S:=Sof m.heads) m.rows
 rw [show (Sof m.heads).rules=[] from rfl,List.nil_append] at this
 exact this
theorem fin_has:∀r∈m.rows,(r.left∈(allS_ m).nons∧(∀w∈r.words,inW m.lefts (allS_ m) w)∧(r.by_≠noT→r.by_∈(allS_ m).terms.map (·.1))):=rows_has m.rows
theorem fin_nons (F:FinM m):(allS_ m).nons.Nodup∧∀x,x∈(allS_ m).nons↔x∈m.lefts:=by
 have h:=rows_nons (ls:=m.lefts) m.rows (S:=Sof m.heads) (fun r hr=>(fin_lr F _).2 (List.mem_map.2 ⟨r,hr,rfl⟩)) ⟨by simp [Sof],by simp [Sof]⟩
 refine ⟨h.1,fun x=>⟨h.2 x,fun hx=>?_⟩⟩
 obtain ⟨r,hr,rfl⟩:=List.mem_map.1 ((fin_lr F x).1 hx)
 exact (fin_has r hr).1
theorem fin_nlen (F:FinM m):(allS_ m).nons.length=(dd m.lefts).length:=nodup_len (fin_nons F).1 (nodup_dd _) fun x=>by rw [(fin_nons F).2,mem_dd]
def hN (S:BS) (s:ByteArray):Int := -posH S.nons s
theorem hN_inj {S:BS} {x y:ByteArray} (hx:x∈S.nons) (hy:y∈S.nons) (h:hN S x=hN S y):x=y:=posH_inj hx hy (by unfold hN at h;omega)
theorem fin_L (F:FinM m):leftsOf (allS_ m).rules=(dd m.lefts).map (hN (allS_ m)):=by
 rw [fin_rules]
 have:=lefts_fold (f:=hN (allS_ m)) (g:=ruleOf m.lefts (allS_ m)) (P:=fun x=>x∈(allS_ m).nons) (fun x y=>hN_inj) m.rows [] (by simp) fun r hr=>⟨(fin_has r hr).1,rfl⟩
 rw [List.map_nil] at this
 unfold leftsOf
 rw [this,←F.lr];rfl
theorem fin_sym (F:FinM m) (t:Nat) {s:ByteArray} (hs:s∈m.lefts):symOf t (leftsOf (allS_ m).rules) (hN (allS_ m) s)=nonX t (dd m.lefts) s:=by
 rw [fin_L F]
 have hd:s∈dd m.lefts:=mem_dd.2 hs
 unfold symOf nonX
 rw [if_pos (List.mem_map.2 ⟨s,hd,rfl⟩),if_pos (posN_in hd).1,idx_map fun y hy e=>hN_inj (((fin_nons F).2 y).2 (mem_dd.1 hy)) (((fin_nons F).2 s).2 hs) e]
theorem fin_posI (F:FinM m) {t:ByteArray} (hT:t≠noT) (ht:t∈(allS_ m).terms.map (·.1)):posI (numX (rxOf m)).ts t=posH ((allS_ m).terms.map (·.1)) t:=by
 rw [fin_ts F,posH_mem ht]
 have:=(posN_in ht).1
 rw [List.length_map] at this
 have e:posN (((noT,(0:Int))::(allS_ m).terms).map (·.1)) t=posN ((allS_ m).terms.map (·.1)) t+1:=by rw [List.map_cons,posN,if_neg (show ¬noT=t from fun e=>hT e.symm)]
 unfold posI
 rw [e,List.length_cons,if_pos (by omega)]
 omega
theorem fin_word (F:FinM m) {r:RowS} (hr:r∈m.rows) {w:Wd} (hw:w∈r.words) :
  symH ((allS_ m).terms.length+1) (leftsOf (allS_ m).rules) (hW m.lefts (allS_ m) w)=symX (numX (rxOf m)).ts (dd m.lefts) w∧0≤symX (numX (rxOf m)).ts (dd m.lefts) w ∧
  ∀a,(if 0<hW m.lefts (allS_ m) w then gradeOf (allS_ m) (hW m.lefts (allS_ m) w) else a)=lev1 (numX (rxOf m)).ts a (symX (numX (rxOf m)).ts (dd m.lefts) w):=by
 have hin:=(fin_has r hr).2.1 w hw
 obtain ⟨⟨k,hri⟩,hsd⟩:=F.ri r hr
 have hwx:=hri.wx w hw
 have hT:TermP w.2.1:=Tm.term ⟨w,hwx.1,hwx.2,rfl⟩
 have hTn:=noT_size hT.1
 have hlen:(numX (rxOf m)).ts.length=(allS_ m).terms.length+1:=by rw [fin_ts F,List.length_cons]
 unfold inW at hin
 unfold symH hW symX
 rw [nonX_dd]
 by_cases h:isNonX m.lefts w=true
 ·rw [if_pos h] at hin
  simp only [if_pos h]
  have hl:=((fin_nons F).2 _).1 hin
  have hpos : -posH (allS_ m).nons w.2.1<0:=by rw [posH_mem hin];omega
  have hd:w.2.1∈dd m.lefts:=mem_dd.2 hl
  have hx:nonX (numX (rxOf m)).ts.length (dd m.lefts) w.2.1=((numX (rxOf m)).ts.length:Int)+posN (dd m.lefts) w.2.1:=by unfold nonX;rw [if_pos (posN_in hd).1]
  refine ⟨?_,by rw [hx];omega,fun a=>?_⟩
  ·rw [if_pos hpos,←hlen];exact fin_sym F _ hl
  ·rw [if_neg (by omega)]
   unfold lev1
   rw [hx,if_neg (by omega)]
 ·rw [if_neg h] at hin
  simp only [if_neg h]
  have hp:=posH_mem hin
  have hl:=(posN_in hin).1
  rw [List.length_map] at hl
  rw [fin_posI F hTn hin,if_neg (by omega)]
  refine ⟨rfl,by omega,fun a=>?_⟩
  rw [if_pos (by omega)]
  unfold lev1
  rw [if_pos (by omega),hp]
  unfold gradeOf lvAt
  rw [fin_ts F,show ((posN ((allS_ m).terms.map (·.1)) w.2.1:Int)+1).toNat=posN ((allS_ m).terms.map (·.1)) w.2.1+1 by omega,List.getElem?_cons_succ]
  rw [show ((posN ((allS_ m).terms.map (·.1)) w.2.1:Int)+1-1).toNat=posN ((allS_ m).terms.map (·.1)) w.2.1 by omega]
theorem fin_by (F:FinM m) {r:RowS} (hr:r∈m.rows) (hb:r.by_≠noT):0≤posI (numX (rxOf m)).ts r.by_∧gradeOf (allS_ m) (posH ((allS_ m).terms.map (·.1)) r.by_)=lvAt (numX (rxOf m)).ts (posI (numX (rxOf m)).ts r.by_):=by
 have hin:=(fin_has r hr).2.2 hb
 have hp:=posH_mem hin
 rw [fin_posI F hb hin,hp]
 refine ⟨by omega,?_⟩
 unfold gradeOf lvAt
 rw [fin_ts F,show ((posN ((allS_ m).terms.map (·.1)) r.by_:Int)+1).toNat=posN ((allS_ m).terms.map (·.1)) r.by_+1 by omega,List.getElem?_cons_succ]
 rw [show ((posN ((allS_ m).terms.map (·.1)) r.by_:Int)+1-1).toNat=posN ((allS_ m).terms.map (·.1)) r.by_ by omega]
theorem fold_congr {α:Type} {f g:Int→α→Int} {l:List α} (h:∀x∈l,∀a,f a x=g a x):∀a,l.foldl f a=l.foldl g a:=by
 induction l with
 | nil=>exact fun _=>rfl
 | cons x l ih=>intro a;rw [List.foldl_cons,List.foldl_cons,h x (by simp),ih fun y hy=>h y (by simp [hy])]
theorem fin_lev (F:FinM m) {r:RowS} (hr:r∈m.rows):levR m.lefts (allS_ m) r=rlev (numX (rxOf m)).ts (dd m.lefts) r:=by
 have hsd:=(F.ri r hr).2
 unfold levR rlev
 by_cases h2:r.said=2
 ·rw [if_pos h2,if_pos h2]
 ·rw [if_neg h2,if_neg h2]
  by_cases hb:r.by_=noT
  ·have hs:r.said≠1:=fun h=>by rcases hsd with h2 | h2;exact h2.2 hb;exact h2.1 h
   rw [if_neg (by simp [hb]),if_neg hs]
   unfold ruleL
   rw [List.foldl_map,List.foldl_map]
   exact fold_congr (fun w hw a=>(fin_word F hr hw).2.2 a) 0
  ·have hs:r.said=1:=by rcases hsd with h2 | h2;exact h2.1;exact absurd h2.2 hb
   rw [if_pos hb,if_pos hs]
   exact (fin_by F hr hb).2
theorem fin_non (F:FinM m) {s:ByteArray} (hs:s∈m.lefts):nonOf (allS_ m) (hN (allS_ m) s)=s:=by
 have hin:=((fin_nons F).2 s).2 hs
 have hp:=posH_mem hin
 unfold nonOf hN
 rw [hp,show (-1 - -((posN (allS_ m).nons s:Int)+1)).toNat=posN (allS_ m).nons s by omega,(posN_in hin).2];rfl

theorem fin_gram (F:FinM m):gramOf (allS_ m)=gOf (numX (rxOf m)):=by
 have hlen:(numX (rxOf m)).ts.length=(allS_ m).terms.length+1:=by rw [fin_ts F,List.length_cons]
 have hL:=fin_L F
 unfold gramOf gOf
 simp only
 have e1:((⟨#[]⟩,0)::(allS_ m).terms:List (ByteArray×Int))=(numX (rxOf m)).ts:=by rw [fin_ts F];rfl
 have e2:(leftsOf (allS_ m).rules).map (nonOf (allS_ m))=(numX (rxOf m)).ls:=by
  rw [hL,List.map_map]
  show _=dd m.lefts
  conv=>rhs;rw [←List.map_id (dd m.lefts)]
  exact List.map_congr_left fun s hs=>fin_non F (mem_dd.1 hs)
 have e3:(allS_ m).levels=(numX (rxOf m)).lv:=(fin_lv F).symm
 have e5:(allS_ m).rules.map (pv (allS_ m))=(numX (rxOf m)).rows.map (gPr (numX (rxOf m))):=by
  rw [fin_rules,List.map_map]
  refine List.map_congr_left fun r hr=>?_
  show pv (allS_ m) (ruleOf m.lefts (allS_ m) r)=gPr (numX (rxOf m)) r
  unfold pv ruleOf gPr
  simp only
  rw [hlen,fin_lev F hr]
  have hlr:r.left∈m.lefts:=(fin_lr F _).2 (List.mem_map.2 ⟨r,hr,rfl⟩)
  have h1:=fin_sym F ((allS_ m).terms.length+1) hlr
  unfold hN at h1
  rw [h1,List.map_map]
  have h2:r.words.map (symH ((allS_ m).terms.length+1) (leftsOf (allS_ m).rules)∘hW m.lefts (allS_ m))=r.words.map (symX (numX (rxOf m)).ts (numX (rxOf m)).ls):=List.map_congr_left fun w hw=>(fin_word F hr hw).1
  rw [h2];rfl
 have e4:symOf ((allS_ m).terms.length+1) (leftsOf (allS_ m).rules) (if (allS_ m).start=0 then ((allS_ m).rules.head?.map (·.1)).getD 0 else (allS_ m).start)=if (numX (rxOf m)).st=noT then ((numX (rxOf m)).ts.length:Int) else nonX (numX (rxOf m)).ts.length (numX (rxOf m)).ls (numX (rxOf m)).st:=by
  show _=if m.start=noT then _ else nonX _ (dd m.lefts) m.start
  have hst:(allS_ m).start=if m.start=noT then 0 else hN (allS_ m) m.start:=rfl
  rw [hlen]
  by_cases hs:m.start=noT
  ·rw [if_pos hs] at hst ⊢
   rw [hst,if_pos rfl]
   obtain ⟨r,rs,e⟩:=List.exists_cons_of_ne_nil F.ne
   have hh:((allS_ m).rules.head?.map (·.1)).getD 0=hN (allS_ m) r.left:=by rw [fin_rules,e];rfl
   have hr:r∈m.rows:=by rw [e];simp
   have hlr:r.left∈m.lefts:=(fin_lr F _).2 (List.mem_map.2 ⟨r,hr,rfl⟩)
   rw [hh,fin_sym F _ hlr]
   have h0:posN (dd m.lefts) r.left=0:=by
    rw [←F.lr,e,List.map_cons]
    have:∀(l:List ByteArray) (a:List ByteArray),posN ((l.foldl addB (r.left::a))) r.left=0:=fun l=>by
     induction l with
     | nil=>intro a;rw [List.foldl_nil,posN,if_pos rfl]
     | cons x l ih =>
      intro a
      rw [List.foldl_cons]
      have:∃a',addB (r.left::a) x=r.left::a':=by unfold addB;split;exact ⟨a,rfl⟩;exact ⟨a++[x],rfl⟩
      obtain ⟨a',ha⟩:=this
      rw [ha];exact ih a'
    exact this (rs.map (·.left)) []
   have hd:r.left∈dd m.lefts:=mem_dd.2 hlr
   unfold nonX
   rw [if_pos (posN_in hd).1,h0];simp
  ·rw [if_neg hs] at hst ⊢
   have hin:m.start∈m.lefts:=by rcases F.st with h | h;exact absurd h hs;exact h
   have hne:(allS_ m).start≠0:=by
    rw [hst];unfold hN
    rw [posH_mem (((fin_nons F).2 _).2 hin)];omega
   rw [if_neg hne,hst]
   exact fin_sym F _ hin
 rw [e1,e2,e3,e4,e5]
theorem fin_told (F:FinM m):toldB (allS_ m)=true:=by
 unfold toldB
 rw [decide_eq_true_eq]
 refine ⟨fun e=>F.ne ?_,?_⟩
 ·rw [fin_rules] at e;exact List.map_eq_nil_iff.1 e
 ·rw [fin_L F,List.length_map,fin_nlen F];exact Nat.le_refl _
theorem fin_Q (F:FinM m):Q (allS_ m)↔¬((numX (rxOf m)).ts.length-1+(numX (rxOf m)).ls.length > 64∨(numX (rxOf m)).rows.length > 96):=by
 have h1:(numX (rxOf m)).ts.length=(allS_ m).terms.length+1:=by rw [fin_ts F,List.length_cons]
 have h2:(numX (rxOf m)).ls.length=(allS_ m).nons.length:=(fin_nlen F).symm
 have h3:(numX (rxOf m)).rows.length=(allS_ m).rules.length:=by rw [fin_rules,List.length_map];rfl
 unfold Q
 rw [h1,h2,h3]
 omega
end

/-- What Read tells is what the document's tells. -/
theorem readG_ref (s:ByteArray):readG s=refG s:=by
 unfold refG
 by_cases hb:0≤badS s
 ·rw [readG_bad hb,if_pos hb];rfl
 ·rw [if_neg hb]
  obtain ⟨_,m,hg,h9⟩:=bad_acc (by omega:badS s<0)
  have mi:=goM_mi s hg
  have F:=mi.fin h9
  rw [hg]
  simp only
  rcases run_all mi h9 with ⟨hq,e⟩ | ⟨hq,e⟩
  ·rw [readG_ok hb hg e,if_pos (fin_told F),if_neg ((fin_Q F).1 hq),fin_gram F]
  ·have h2:(numX (rxOf m)).ts.length-1+(numX (rxOf m)).ls.length > 64∨(numX (rxOf m)).rows.length > 96:=Classical.byContradiction fun h=>hq ((fin_Q F).2 h)
   rw [readG_err hb hg e,if_pos h2];rfl
end Go.Proofs.YtckbgeedlobfaaaDoor

/-
  The document's Read, whole.
-/
namespace Go.Proofs.YtckbgeedlobfaaaDoor
open Go.Px Go.Px.Scan Go.Px.Spec Go.RowKit

theorem lv_bounds {ts:List (ByteArray×Int)} {K:Int} (hK:0≤K) (h:∀x∈ts,0≤x.2∧x.2≤K) (i:Int):0≤lvAt ts i∧lvAt ts i≤K:=by
 unfold lvAt
 cases e:ts[i.toNat]? with
 | none=>simp;exact hK
 | some x=>exact h x (List.mem_of_getElem? e)
theorem rlev_bounds {ts:List (ByteArray×Int)} {K:Int} (hK:0≤K) (h:∀x∈ts,0≤x.2∧x.2≤K) (ls:List ByteArray) (r:RowS):0≤rlev ts ls r∧rlev ts ls r≤K:=by
 unfold rlev
 split
 ·omega
 ·split
  ·exact lv_bounds hK h _
  ·have:∀(l:List Int) (a:Int),0≤a∧a≤K→0≤l.foldl (lev1 ts) a∧l.foldl (lev1 ts) a≤K:=fun l=>by
    induction l with
    | nil=>exact fun a h=>h
    | cons x l ih =>
     intro a ha
     refine ih _ ?_
     unfold lev1
     split
     ·exact lv_bounds hK h _
     ·exact ha
   exact this _ 0 (by omega)

end Go.Proofs.YtckbgeedlobfaaaDoor

/-
  Are two grammars the same? In package gram.
-/
namespace Go.Px.Scan
open Go.Px
open Classical in
noncomputable def sameB (a b:Gr):Bool:=decide (a=b)
theorem sameB_iff {a b:Gr}:sameB a b=true↔a=b:=@decide_eq_true_iff _ (_)
theorem Gr.ext' {a b:Gr} (h1:a.terms=b.terms) (h2:a.nons=b.nons) (h3:a.levels=b.levels) (h4:a.start=b.start) (h5:a.prods=b.prods):a=b:=by
 cases a;cases b;simp_all
theorem take_eq_succ {α:Type} {a b:List α} {k:Nat} (h:a.take k=b.take k) (ha:k<a.length) (hb:k<b.length) (he:a[k]=b[k]):a.take (k+1)=b.take (k+1):=by
 rw [List.take_succ_eq_append_getElem ha,List.take_succ_eq_append_getElem hb,h,he]
theorem toList_inj {a b:ByteArray}:a.toList=b.toList↔a=b:=by
 constructor
 ·intro h;rw [ByteArray.toList_eq,ByteArray.toList_eq] at h;exact bs_ext h
 ·rintro rfl;rfl
end Go.Px.Scan
namespace Go.Proofs.YtckbgeedlobfaaaDoor
open Go.Px Go.Px.Scan Go.RowKit
attribute [-go_sem] Builtin.append_

end Go.Proofs.YtckbgeedlobfaaaDoor

namespace Go.Proofs.YtckbgeedlobfaaaDoor
open Go.Px Go.RowKit

theorem ref02_SameInts_ct {w:World} {B:Nat} {va vb:Value} {a b:List Int} (ha:(rSlice rInt).at1 w B va a) (hb:(rSlice rInt).at1 w B vb b) (hB:B≤w.heap.size) :
  Ct Tryd.prog ref02_SameInts.id #[va,vb] w fun v w'=>v = .bool (a == b)∧Below w.heap.size w w':=by
 obtain ⟨A1,c1,rfl,hl1,hm1,_⟩:=slice_form ha
 obtain ⟨A2,c2,rfl,hl2,hm2,_⟩:=slice_form hb
 refine ref02_SameInts.ct fun R hR=>?_
 unfold ref02_SameInts.run ref02_SameInts.b1
 simp [go_sem]
 refine SPL_intro (fun h=>?_) (fun h=>?_)
 ·refine hR _ _ ⟨?_,Below.refl _ _⟩
  have:¬a=b:=by rintro rfl;simp at h
  simpa using this
 have hlen:a.length=b.length:=by simp at h;omega
 unfold ref02_SameInts.b4
 refine ref02_SameInts.l6_intro _ _ _ _ _ (fun x w1=>∃k:Nat,x = .int .i64 k∧k≤a.length∧a.take k=b.take k∧Below w.heap.size w w1) (fun x _=>a.length-iv x) ⟨0,rfl,by omega,rfl,Below.refl _ _⟩ ?_
 rintro _ w1 ⟨k,rfl,hk,hall,hbw⟩ C hC
 unfold ref02_SameInts.b7
 simp [go_sem]
 refine SPL_intro (fun h=>?_) (fun h=>?_)
 ·have hka:k<a.length:=by simpa using h
  have hkb:k<b.length:=by omega
  obtain ⟨b1,o1,rfl,hb1,hc1,hr1⟩:=Go.Px.ints_at (Rep.below ha (hbw.mono hB)) hka
  obtain ⟨b2,o2,rfl,hb2,hc2,hr2⟩:=Go.Px.ints_at (Rep.below hb (hbw.mono hB)) hkb
  have wk:=wrap_succ hka (Nat.le_trans hl1 hm1)
  simp [go_sem,hka,hkb,hc1,hc2]
  refine SPL_intro (fun h=>?_) (fun h=>?_)
  ·refine hR _ _ ⟨?_,hbw.drew⟩
   have:¬a=b:=by rintro rfl;simp at h
   simpa using this
  ·simp [go_sem,wk]
   refine hC _ _ ⟨k+1,by simp,by omega,?_,hbw.drew⟩ (by simp [iv];omega)
   have h:a[k]=b[k]:=by simpa using h
   rw [List.take_succ_eq_append_getElem hka,List.take_succ_eq_append_getElem hkb,hall,h]
 ·have hk9:¬k<a.length:=by simpa using h
  have hka:k=a.length:=by omega
  unfold ref02_SameInts.b3
  refine hR _ _ ⟨?_,hbw⟩
  rw [hka,List.take_length,hlen,List.take_length] at hall
  simp [hall]
end Go.Proofs.YtckbgeedlobfaaaDoor

/-
  Are two grammars the same? The document's answer; the law GramSame.
-/
namespace Go.Proofs.YtckbgeedlobfaaaDoor
open Go.Px Go.Px.Scan Go.RowKit
attribute [-go_sem] Builtin.append_
attribute [-go_sem] ref02_Same.b7 ref02_Same.b16 ref02_Same.b20

theorem refSame_ct {w:World} {B:Nat} {va vb:Value} {a b:Gr} (ha:rGram.atN w B va a) (hb:rGram.atN w B vb b) (hB:B≤w.heap.size) :
  Ct Tryd.prog ref02_Same.id #[va,vb] w fun v w'=>v = .bool (sameB a b)∧Chg noB w w':=by
 obtain ⟨A1,c1,A2,c2,A3,c3,A4,c4,rfl,h1,h2,h3,h4,h5,⟨l1,m1⟩,⟨l2,m2⟩,⟨l3,m3⟩,⟨l4,m4⟩⟩:=(rGram_open ha).ex
 obtain ⟨B1,d1,B2,d2,B3,d3,B4,d4,rfl,g1,g2,g3,g4,g5,_⟩:=(rGram_open hb).ex
 refine ref02_Same.ct fun R hR=>?_
 have no:∀w',Chg noB w w'→a≠b→R (.returned (.bool false)) w':=fun w' hc hn=>hR _ _ ⟨by rw [bool_no sameB_iff hn],hc⟩
 unfold ref02_Same.run
 have s1:=(St.refl noB w).alloc #[.slice A1 a.terms.length c1,.slice A2 a.nons.length c2,.slice A3 a.levels.length c3,.int .i64 a.start,.slice A4 a.prods.length c4] 28
 have s2:=s1.alloc #[.slice B1 b.terms.length d1,.slice B2 b.nons.length d2,.slice B3 b.levels.length d3,.int .i64 b.start,.slice B4 b.prods.length d4] 28
 have hs1:(w.alloc (.cells #[.slice A1 a.terms.length c1,.slice A2 a.nons.length c2,.slice A3 a.levels.length c3,.int .i64 a.start,.slice A4 a.prods.length c4] 28)).heap.size=w.heap.size+1:=by simp
 rw [hs1] at s2
 have k1:=s2.box 0 rfl
 have k2:=s2.box 1 rfl
 simp [boxAt] at k1 k2
 simp -dsimp [go_sem,k1,k2]
 generalize w.heap.size=n at s2 ⊢
 generalize (w.alloc (.cells #[.slice A1 a.terms.length c1,.slice A2 a.nons.length c2,.slice A3 a.levels.length c3,.int .i64 a.start,.slice A4 a.prods.length c4] 28)).alloc (.cells #[.slice B1 b.terms.length d1,.slice B2 b.nons.length d2,.slice B3 b.levels.length d3,.int .i64 b.start,.slice B4 b.prods.length d4] 28)=w2 at s2 ⊢
 have hbl:=s2.chg.below hB fun _ _=>id
 refine CALL_of (ref02_SameInts_ct (Rep.below h3 hbl) (Rep.below g3 hbl) (by have:=s2.chg.size;omega)) ?_
 rintro _ w3 ⟨rfl,hc3⟩
 have s3:=s2.old (Below.chg hc3)
 have k1:=s3.box 0 rfl
 have k2:=s3.box 1 rfl
 simp [boxAt] at k1 k2
 by_cases q4:a.levels=b.levels
 case neg =>
  have:(a.levels == b.levels)=false:=by simpa using q4
  simp -dsimp [go_sem,this]
  exact no _ s3.chg fun e=>q4 (by rw [e])
 simp -dsimp [go_sem,q4,k1,k2]
 refine SPL_intro (fun q1=>?_) (fun q1=>?_) <;> simp at q1
 ·simp -dsimp [go_sem]
  exact no _ s3.chg fun e=>q1 (by rw [e])
 simp -dsimp [go_sem,k1,k2]
 refine SPL_intro (fun q2=>?_) (fun q2=>?_) <;> simp at q2
 ·simp -dsimp [go_sem]
  exact no _ s3.chg fun e=>q2 (by rw [e])
 simp -dsimp [go_sem,k1,k2]
 refine SPL_intro (fun q3=>?_) (fun q3=>?_) <;> simp at q3
 ·simp -dsimp [go_sem]
  exact no _ s3.chg fun e=>q3 (by rw [e])
 simp -dsimp [go_sem,k1,k2]
 refine SPL_intro (fun q5=>?_) (fun q5=>?_) <;> simp at q5
 ·exact no _ s3.chg fun e=>q5 (by rw [e])
 have q2:a.terms.length=b.terms.length:=by omega
 have q3:a.nons.length=b.nons.length:=by omega
 have q5:a.prods.length=b.prods.length:=by omega
 have hB3:B≤w3.heap.size:=by have:=s3.chg.size;omega
 unfold ref02_Same.b20
 refine ref02_Same.l22_intro _ _ _ _ _ (fun x w1=>∃k:Nat,x = .int .i64 k∧k≤a.terms.length∧a.terms.take k=b.terms.take k∧Chg noB w3 w1) (fun x _=>a.terms.length-iv x) ⟨0,rfl,by omega,rfl,Chg.refl _ _⟩ ?_
 rintro _ w4 ⟨k,rfl,hk,hall,hcw⟩ C hC
 have s4:=s3.old hcw
 have s4d:=s3.old hcw.drew
 have k3:=s4.box 0 rfl
 have k4:=s4d.box 0 rfl
 have k5:=s4d.box 1 rfl
 simp [boxAt] at k3 k4 k5
 simp -dsimp [go_sem,k3]
 refine SPL_intro (fun p1=>?_) (fun p1=>?_) <;> simp at p1
 ·have hkb:k<b.terms.length:=by omega
  obtain ⟨b1,o1,rfl,hb1,hc1,hd1,_⟩:=terms_at (Rep.below h1 (s4d.chg.below hB fun _ _=>id)) p1
  obtain ⟨b2,o2,rfl,hb2,hc2,hd2,_⟩:=terms_at (Rep.below g1 (s4d.chg.below hB fun _ _=>id)) hkb
  have wk:=wrap_succ p1 (Nat.le_trans l1 m1)
  simp at hc1 hc2 hd1 hd2
  simp -dsimp [go_sem,p1,hkb,hc1,hc2,hd1,hd2,k3,k4,k5]
  by_cases p3:a.terms[k].1.toList=b.terms[k].1.toList
  case neg =>
   simp -dsimp [go_sem,p3]
   exact no _ s4d.chg fun e=>p3 (by subst e;rfl)
  by_cases p4:a.terms[k].2=b.terms[k].2
  case neg =>
   simp -dsimp [go_sem,p3,p4]
   exact no _ s4d.chg fun e=>p4 (by subst e;rfl)
  simp -dsimp [go_sem,p3,p4,wk]
  exact hC _ _ ⟨k+1,by simp,by omega,take_eq_succ hall p1 hkb (Prod.ext (toList_inj.1 p3) p4),hcw.drew⟩ (by simp [iv];omega)
 have eqT:a.terms=b.terms:=by
  have hka:k=a.terms.length:=by omega
  rw [hka,List.take_length,q2,List.take_length] at hall
  exact hall
 clear hC C hall hk p1
 unfold ref02_Same.b16
 refine ref02_Same.l18_intro _ _ _ _ _ (fun x w1=>∃k:Nat,x = .int .i64 k∧k≤a.nons.length∧a.nons.take k=b.nons.take k∧Chg noB w3 w1) (fun x _=>a.nons.length-iv x) ⟨0,rfl,by omega,rfl,hcw⟩ ?_
 clear s4 s4d k3 k4 k5 hcw k
 rintro _ w4 ⟨k,rfl,hk,hall,hcw⟩ C hC
 have s4:=s3.old hcw
 have s4d:=s3.old hcw.drew
 have k3:=s4.box 0 rfl
 have k4:=s4d.box 0 rfl
 have k5:=s4d.box 1 rfl
 simp [boxAt] at k3 k4 k5
 simp -dsimp [go_sem,k3]
 refine SPL_intro (fun p1=>?_) (fun p1=>?_) <;> simp at p1
 ·have hkb:k<b.nons.length:=by omega
  obtain ⟨b1,o1,rfl,hb1,hc1,_⟩:=Go.Px.strs_at (Rep.below h2 (s4d.chg.below hB fun _ _=>id)) p1
  obtain ⟨b2,o2,rfl,hb2,hc2,_⟩:=Go.Px.strs_at (Rep.below g2 (s4d.chg.below hB fun _ _=>id)) hkb
  have wk:=wrap_succ p1 (Nat.le_trans l2 m2)
  simp at hc1 hc2
  simp -dsimp [go_sem,p1,hkb,hc1,hc2,k3,k4,k5]
  refine SPL_intro (fun p3=>?_) (fun p3=>?_) <;> simp at p3
  ·exact no _ s4d.chg fun e=>p3 (by subst e;rfl)
  ·simp -dsimp [go_sem,wk]
   exact hC _ _ ⟨k+1,by simp,by omega,take_eq_succ hall p1 hkb (toList_inj.1 p3),hcw.drew⟩ (by simp [iv];omega)
 have eqN:a.nons=b.nons:=by
  have hka:k=a.nons.length:=by omega
  rw [hka,List.take_length,q3,List.take_length] at hall
  exact hall
 clear hC C hall hk p1
 unfold ref02_Same.b7
 refine ref02_Same.l9_intro _ _ _ _ _ (fun x w1=>∃k:Nat,x = .int .i64 k∧k≤a.prods.length∧a.prods.take k=b.prods.take k∧Chg noB w3 w1) (fun x _=>a.prods.length-iv x) ⟨0,rfl,by omega,rfl,hcw⟩ ?_
 clear s4 s4d k3 k4 k5 hcw k
 rintro _ w4 ⟨k,rfl,hk,hall,hcw⟩ C hC
 have s4:=s3.old hcw
 have k3:=s4.box 0 rfl
 simp [boxAt] at k3
 simp -dsimp [go_sem,k3]
 refine SPL_intro (fun p1=>?_) (fun p1=>?_) <;> simp at p1
 ·have hkb:k<b.prods.length:=by omega
  obtain ⟨b1,o1,v1,rfl,hb1,x1,x2,x3,xr,_⟩:=prods_at (Rep.below h5 (s4.chg.below hB fun _ _=>id)) p1
  obtain ⟨b2,o2,v2,rfl,hb2,y1,y2,y3,yr,_⟩:=prods_at (Rep.below g5 (s4.chg.below hB fun _ _=>id)) hkb
  obtain ⟨A5,c5,rfl,_⟩:=slice_form xr
  obtain ⟨A6,c6,rfl,_⟩:=slice_form yr
  have wk:=wrap_succ p1 (Nat.le_trans l4 m4)
  have t1:=s4.alloc #[.int .i64 a.prods[k].1,.slice A5 a.prods[k].2.1.length c5,.int .i64 a.prods[k].2.2] 37
  have t2:=t1.alloc #[.int .i64 b.prods[k].1,.slice A6 b.prods[k].2.1.length c6,.int .i64 b.prods[k].2.2] 37
  have ht1:(w4.alloc (.cells #[.int .i64 a.prods[k].1,.slice A5 a.prods[k].2.1.length c5,.int .i64 a.prods[k].2.2] 37)).heap.size=w4.heap.size+1:=by simp
  rw [ht1] at t2
  have hc1:Chg noB w4 (w4.alloc (.cells #[.int .i64 a.prods[k].1,.slice A5 a.prods[k].2.1.length c5,.int .i64 a.prods[k].2.2] 37)):=(Chg.refl _ _).alloc _
  have z0:=(t1.box 1 rfl)
  have z1:=hc1.at y1 id
  have z2:=hc1.at y2 id
  have z3:=hc1.at y3 id
  have k1:=t2.box 2 rfl
  have k2:=t2.box 3 rfl
  simp [boxAt] at k1 k2 z0
  simp -dsimp [go_sem,p1,hkb,x1,x2,x3,z0,z1,z2,z3,k1,k2,k3]
  have hc2:=hc1.alloc (.cells #[.int .i64 b.prods[k].1,.slice A6 b.prods[k].2.1.length c6,.int .i64 b.prods[k].2.2] 37)
  generalize (w4.alloc (.cells #[.int .i64 a.prods[k].1,.slice A5 a.prods[k].2.1.length c5,.int .i64 a.prods[k].2.2] 37)).alloc (.cells #[.int .i64 b.prods[k].1,.slice A6 b.prods[k].2.1.length c6,.int .i64 b.prods[k].2.2] 37)=w5 at hc2 t2 ⊢
  have hB4:B≤w4.heap.size:=by have:=hcw.size;omega
  generalize w4.heap.size=n4 at t2 ⊢
  refine CALL_of (ref02_SameInts_ct (Rep.below xr (hc2.below hB4 fun _ _=>id)) (Rep.below yr (hc2.below hB4 fun _ _=>id)) (by have:=hc2.size;omega)) ?_
  rintro _ w6 ⟨rfl,hc6⟩
  have s6:=t2.old (Below.chg hc6)
  have k1:=s6.box 2 rfl
  have k2:=s6.box 3 rfl
  simp [boxAt] at k1 k2
  by_cases p2:a.prods[k].2.1=b.prods[k].2.1
  case neg =>
   have:(a.prods[k].2.1 == b.prods[k].2.1)=false:=by simpa using p2
   simp -dsimp [go_sem,this]
   exact no _ s6.chg fun e=>p2 (by subst e;rfl)
  simp -dsimp [go_sem,p2,k1,k2]
  refine SPL_intro (fun p3=>?_) (fun p3=>?_) <;> simp at p3
  ·simp -dsimp [go_sem]
   exact no _ s6.chg fun e=>p3 (by subst e;rfl)
  simp -dsimp [go_sem,k1,k2]
  refine SPL_intro (fun p4=>?_) (fun p4=>?_) <;> simp at p4
  ·exact no _ s6.chg fun e=>p4 (by subst e;rfl)
  simp -dsimp [go_sem,wk]
  exact hC _ _ ⟨k+1,by simp,by omega,take_eq_succ hall p1 hkb (Prod.ext p3 (Prod.ext p2 p4)),(hcw.trans hc2).trans (Below.chg hc6)⟩ (by simp [iv];omega)
 ·have hka:k=a.prods.length:=by omega
  rw [hka,List.take_length,q5,List.take_length] at hall
  simp -dsimp [go_sem]
  refine hR _ _ ⟨?_,s4.chg⟩
  rw [sameB_iff.2 (Gr.ext' eqT eqN q4 q1 hall)]
end Go.Proofs.YtckbgeedlobfaaaDoor
