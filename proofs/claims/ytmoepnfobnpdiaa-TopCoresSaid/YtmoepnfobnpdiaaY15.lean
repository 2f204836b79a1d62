/-
  Texts of this claim: Tq1, Tq2, Tq3, Tq4, Tq5, Tq6, Lp1, Tm4, Tm5, Tw1, Tw2, Tw3.
-/
import Derived.Test.YtmoepnfobnpdiaaY14
import Derived.Test.YtmoepnfobnpdiaaY13
import Derived.Test.YtmoepnfobnpdiaaY07
set_option maxHeartbeats 1000000
set_option linter.unusedSimpArgs false
set_option linter.unusedVariables false
set_option maxRecDepth 100000
/-
  alike, SameItems, core.
-/
namespace Go.Px.Cn
open Go.Px
theorem list_take_eq {α:Type} {a b:List α} {i:Nat} (h1:i<a.length) (h2:i<b.length) (h:a.take i=b.take i) (e:a[i]=b[i]):a.take (i+1)=b.take (i+1):=by
 rw [List.take_succ_eq_append_getElem h1,List.take_succ_eq_append_getElem h2,h,e]
end Go.Px.Cn
namespace Go.Proofs.Ytmoepnfobnpdiaa
open Go.Px Go.Px.Scan Go.Px.Cn Go.RowKit
attribute [-go_sem] Builtin.append_ top_alike.b3 top_alike.b7_1 top_alike.b4 ref09_SameItems.b3 ref09_SameItems.b7_1 ref09_SameItems.b4 top_core.b3 top_core.b9 top_core.b12_1 top_core.b12 top_core.b11_1 top_core.b11
theorem alike_ct {w:World} {B1 B2 c1 c2:Nat} {A1 A2:Option Addr} {a b:List It1} (ha:(rSlice rFl).at1 w B1 (.slice A1 a.length c1) a) (hb:(rSlice rFl).at1 w B2 (.slice A2 b.length c2) b) (hB1:B1≤w.heap.size) (hB2:B2≤w.heap.size) (hla:a.length≤1000000) :
  Ct Try.prog top_alike.id #[.slice A1 a.length c1,.slice A2 b.length c2] w fun v w'=>(∃r,v = .bool r∧(r=true↔a=b))∧Chg noB w w':=by
 refine top_alike.ct fun R hR=>?_
 unfold top_alike.run
 simp -dsimp [go_sem]
 refine SPL_intro (fun p0=>?_) (fun p0=>?_) <;> simp at p0
 ·exact hR _ _ ⟨⟨false,rfl,⟨fun h=>(by cases h),fun h=>absurd (by rw [h]) p0⟩⟩,Chg.refl _ _⟩
 have hlen:a.length=b.length:=by omega
 unfold top_alike.b4
 refine top_alike.l6_intro _ _ _ _ _ (fun y w'=>∃i:Nat,y = .int .i64 i∧i≤a.length∧a.take i=b.take i∧Chg noB w w') (fun y _=>a.length-iv y) ⟨0,rfl,by omega,by simp,Chg.refl _ _⟩ ?_
 rintro _ w1 ⟨i,rfl,hi,hte,hc1⟩ C hC
 have wi:IntKind.i64.wrap ((i:Int)+1)=(i:Int)+1:=IntWalk.i64_in _ (by omega)
 simp -dsimp [go_sem]
 refine SPL_intro (fun p1=>?_) (fun p1=>?_) <;> simp at p1
 ·have p2:i<b.length:=by omega
  obtain ⟨ba,oa,rfl,_,k1,k2,k3⟩:=fls_at (Rep.below ha (hc1.below hB1 fun _ _=>id)) p1
  obtain ⟨bb,ob,rfl,_,m1,m2,m3⟩:=fls_at (Rep.below hb (hc1.below hB2 fun _ _=>id)) p2
  obtain ⟨x,hx⟩:∃x,a[i]=x:=⟨_,rfl⟩
  obtain ⟨y,hy⟩:∃y,b[i]=y:=⟨_,rfl⟩
  rw [hx] at k1 k2 k3
  rw [hy] at m1 m2 m3
  unfold top_alike.b7_1
  simp -dsimp [go_sem,p1,p2,k1,k2,k3,m1,m2,m3,wi]
  refine SPL_intro (fun p3=>?_) (fun p3=>?_) <;> simp at p3
  ·refine hR _ _ ⟨⟨false,rfl,⟨fun h=>(by cases h),fun h=>?_⟩⟩,hc1.drew⟩
   subst h
   rw [hx] at hy
   subst hy
   omega
  ·simp -dsimp [go_sem,wi]
   refine hC _ _ ⟨i+1,by simp,by omega,list_take_eq p1 p2 hte ?_,hc1.drew⟩ (by simp [iv];omega)
   rw [hx,hy]
   refine Prod.ext (Prod.ext ?_ ?_) ?_ <;> omega
 ·unfold top_alike.b3
  have hie:i=a.length:=by omega
  rw [hie,List.take_length,hlen,List.take_length] at hte
  exact hR _ _ ⟨⟨true,rfl,by simp [hte]⟩,hc1⟩
theorem SameItems_ct {w:World} {B1 B2 c1 c2:Nat} {A1 A2:Option Addr} {a b:List It} (ha:(rSlice rIt).at1 w B1 (.slice A1 a.length c1) a) (hb:(rSlice rIt).at1 w B2 (.slice A2 b.length c2) b) (hB1:B1≤w.heap.size) (hB2:B2≤w.heap.size) (hla:a.length≤1000000) :
  Ct Try.prog ref09_SameItems.id #[.slice A1 a.length c1,.slice A2 b.length c2] w fun v w'=>(∃r,v = .bool r∧(r=true↔a=b))∧Chg noB w w':=by
 refine ref09_SameItems.ct fun R hR=>?_
 unfold ref09_SameItems.run
 simp -dsimp [go_sem]
 refine SPL_intro (fun p0=>?_) (fun p0=>?_) <;> simp at p0
 ·exact hR _ _ ⟨⟨false,rfl,⟨fun h=>(by cases h),fun h=>absurd (by rw [h]) p0⟩⟩,Chg.refl _ _⟩
 have hlen:a.length=b.length:=by omega
 unfold ref09_SameItems.b4
 refine ref09_SameItems.l6_intro _ _ _ _ _ (fun y w'=>∃i:Nat,y = .int .i64 i∧i≤a.length∧a.take i=b.take i∧Chg noB w w') (fun y _=>a.length-iv y) ⟨0,rfl,by omega,by simp,Chg.refl _ _⟩ ?_
 rintro _ w1 ⟨i,rfl,hi,hte,hc1⟩ C hC
 have wi:IntKind.i64.wrap ((i:Int)+1)=(i:Int)+1:=IntWalk.i64_in _ (by omega)
 simp -dsimp [go_sem]
 refine SPL_intro (fun p1=>?_) (fun p1=>?_) <;> simp at p1
 ·have p2:i<b.length:=by omega
  obtain ⟨ba,oa,rfl,_,k1,k2⟩:=its_at (Rep.below ha (hc1.below hB1 fun _ _=>id)) p1
  obtain ⟨bb,ob,rfl,_,m1,m2⟩:=its_at (Rep.below hb (hc1.below hB2 fun _ _=>id)) p2
  obtain ⟨x,hx⟩:∃x,a[i]=x:=⟨_,rfl⟩
  obtain ⟨y,hy⟩:∃y,b[i]=y:=⟨_,rfl⟩
  rw [hx] at k1 k2
  rw [hy] at m1 m2
  unfold ref09_SameItems.b7_1
  simp -dsimp [go_sem,p1,p2,k1,k2,m1,m2,wi]
  refine SPL_intro (fun p3=>?_) (fun p3=>?_) <;> simp at p3
  ·refine hR _ _ ⟨⟨false,rfl,⟨fun h=>(by cases h),fun h=>?_⟩⟩,hc1.drew⟩
   subst h
   rw [hx] at hy
   subst hy
   omega
  ·simp -dsimp [go_sem,wi]
   refine hC _ _ ⟨i+1,by simp,by omega,list_take_eq p1 p2 hte ?_,hc1.drew⟩ (by simp [iv];omega)
   rw [hx,hy]
   refine Prod.ext ?_ ?_ <;> omega
 ·unfold ref09_SameItems.b3
  have hie:i=a.length:=by omega
  rw [hie,List.take_length,hlen,List.take_length] at hte
  exact hR _ _ ⟨⟨true,rfl,by simp [hte]⟩,hc1⟩
end Go.Proofs.Ytmoepnfobnpdiaa

/-
  core.
-/
namespace Go.Proofs.Ytmoepnfobnpdiaa
open Go.Px Go.Px.Scan Go.Px.Cn Go.RowKit
attribute [-go_sem] Builtin.append_ top_core.b3 top_core.b9 top_core.b12_1 top_core.b12 top_core.b11_1 top_core.b11
theorem core_ct {w:World} {B c:Nat} {A:Option Addr} {a:List It1} (ha:(rSlice rFl).at1 w B (.slice A a.length c) a) (hB:B≤w.heap.size) (hla:a.length≤1000000) :
  Ct Try.prog top_core.id #[.slice A a.length c] w fun v w'=>∃A' c',v = .slice A' (coreF a).length c'∧St noB w w' [rowC 57 2 A' (coreF a).length c' ((coreF a).flatMap itV)]:=by
 refine top_core.ct fun R hR=>?_
 have s0:=(St.refl noB w).nilRow 57 2
 unfold top_core.run
 simp -dsimp [go_sem]
 refine top_core.l6_intro _ _ _ _ _ (fun x y w'=>∃(i:Nat) (A':Option Addr) (c':Nat) (o:List It),x = .slice A' o.length c'∧y = .int .i64 i∧i≤a.length∧o=coreF (a.take i)∧o.length≤i∧St noB w w' [rowC 57 2 A' o.length c' (o.flatMap itV)]) (fun _ y _=>a.length-iv y)
  ⟨0,none,0,[],rfl,rfl,by omega,rfl,by simp,s0⟩ ?_
 rintro _ _ w1 ⟨i,A',c',o,rfl,rfl,hi,ho,hol,s1⟩ C hC
 have wi:IntKind.i64.wrap ((i:Int)+1)=(i:Int)+1:=IntWalk.i64_in _ (by omega)
 simp -dsimp [go_sem]
 refine SPL_intro (fun p1=>?_) (fun p1=>?_) <;> simp at p1
 ·obtain ⟨ba,oa,rfl,_,k1,k2,k3⟩:=fls_at ha p1
  have k1:=s1.chg.at k1 id
  have k2:=s1.chg.at k2 id
  obtain ⟨x,hx⟩:∃x,a[i]=x:=⟨_,rfl⟩
  rw [hx] at k1 k2
  have et:coreF (a.take (i+1))=if o.getLast?=some x.1 then o else o++[x.1]:=by
   rw [List.take_succ_eq_append_getElem p1,hx,coreF_snoc,←ho]
  have s2:=s1.old (Chg.refl noB w1).drew
  have hup:∀w' A2 c2 o2,o2=coreF (a.take (i+1))→o2.length≤i+1→St noB w w' [rowC 57 2 A2 o2.length c2 (o2.flatMap itV)]→top_core.b9 R C (.slice A2 o2.length c2) (.int .i64 i) w':=by
   intro w' A2 c2 o2 h1 h2 h3
   unfold top_core.b9
   simp -dsimp [go_sem,wi]
   exact hC _ _ _ ⟨i+1,A2,c2,o2,rfl,by simp,by omega,h1,h2,h3⟩ (by simp [iv];omega)
  have hnew:o.getLast?≠some x.1→top_core.b12_1 R C (.slice (some ⟨ba,oa,none⟩) a.length c) (.slice A' o.length c') (.int .i64 i) w1.drew:=by
   intro hl
   unfold top_core.b12_1
   simp -dsimp [go_sem,p1,k1,k2]
   refine s2.append1 0 rfl uItems iItem rfl (by decide) (news:=[.int .i64 x.1.1,.int .i64 x.1.2]) rfl (by simp [Value.oneCell']) (by unfold maxLen;omega) (by unfold maxBytes;omega) ?_
   intro g2 cap w4 s4
   have e3:o.length+1=(o++[x.1]).length:=by simp
   have e2:o.flatMap itV++[.int .i64 x.1.1,.int .i64 x.1.2]=(o++[x.1]).flatMap itV:=by rw [List.flatMap_append];simp [itV]
   have s4:St noB w w4 [rowC 57 2 (some ⟨g2,0,none⟩) (o.length+1) cap (o.flatMap itV++[.int .i64 x.1.1,.int .i64 x.1.2])]:=s4
   rw [e2,e3] at s4
   rw [e3]
   exact hup w4 _ cap _ (by rw [et,if_neg hl]) (by rw [←e3];omega) s4
  unfold top_core.b11
  simp -dsimp [go_sem]
  refine SPL_intro (fun p2=>?_) (fun p2=>?_) <;> simp at p2
  ·unfold top_core.b12
   simp -dsimp [go_sem]
   exact hnew (by rw [p2];simp)
  ·obtain ⟨y,hy⟩:∃y,o.getLast?=some y:=⟨o.getLast p2,List.getLast?_eq_some_getLast p2⟩
   have hpos:0<o.length:=List.length_pos_iff.2 p2
   have hyi:o[o.length-1]?=some y:=by rw [←List.getLast?_eq_getElem?];exact hy
   obtain ⟨F,hrow,_⟩:=s1.get (k:=0) rfl
   obtain ⟨g0,eg,hcl,_⟩:=row_elem hrow (fun _ _=>rfl) (by decide) hyi
   subst eg
   have y0:=hcl 0 _ rfl
   have y1:=hcl 1 _ rfl
   obtain ⟨m,hm⟩:∃m,o.length-1=m:=⟨_,rfl⟩
   rw [hm] at y0 y1
   have wl:IntKind.i64.wrap ((o.length:Int)-1)=(m:Int):=by rw [show (o.length:Int)-1=(m:Int) by omega];exact IntWalk.i64_in _ (by omega)
   have hmo:m<o.length:=by omega
   simp only [Nat.add_zero] at y0
   unfold top_core.b11_1
   simp -dsimp [go_sem,wl,hmo,y0,y1,p1,k1,k2]
   unfold top_core.b12
   refine SPL_intro (fun p3=>?_) (fun p3=>?_) <;> simp at p3
   ·refine hnew fun e=>?_
    rw [hy] at e
    injection e with e
    subst e
    omega
   ·have e:y=x.1:=by refine Prod.ext ?_ ?_ <;> omega
    refine hup _ _ _ o ?_ (by omega) s2
    rw [et,hy,e,if_pos rfl]
 ·have hie:i=a.length:=by omega
  rw [hie,List.take_length] at ho
  subst ho
  unfold top_core.b3
  exact hR _ _ ⟨A',c',rfl,s1⟩
end Go.Proofs.Ytmoepnfobnpdiaa

/-
  The canonical collection: behind.
-/
namespace Go.Px.Cn
open Go.Px Go.Px.Scan
theorem behL_snoc (P:Prs) (a:List It1) (z:It1) (s:Int):behL P (a++[z]) s=if aft P z.1=some s then behL P a s++[((z.1.1,z.1.2+1),z.2)] else behL P a s:=by
 unfold behL
 rw [List.filter_append,List.map_append]
 by_cases h:aft P z.1=some s <;> simp [h]
theorem behL_len (P:Prs) (a:List It1) (s:Int):(behL P a s).length≤a.length:=by
 unfold behL
 rw [List.length_map];exact List.length_filter_le _ _
theorem behL_ok {g:Gr} {a:List It1} {s:Int} (h:∀z∈a,ItOk g z):∀z∈behL g.prods a s,ItOk g z:=by
 intro z hz
 unfold behL at hz
 rw [List.mem_map] at hz
 obtain ⟨y,hy,rfl⟩:=hz
 rw [List.mem_filter] at hy
 have h1:=h y hy.1
 refine ⟨h1.1,?_,h1.2.2⟩
 have h2:aft g.prods y.1=some s:=by simpa using hy.2
 unfold aft at h2
 exact (List.getElem?_eq_some_iff.1 h2).1
end Go.Px.Cn
namespace Go.Proofs.Ytmoepnfobnpdiaa
open Go.Px Go.Px.Scan Go.Px.Cn Go.RowKit
attribute [-go_sem] Builtin.append_ top_canon_closure.b3 top_canon_closure.b8 top_canon_closure.b25 top_canon_closure.b24_1 top_canon_behind.b3 top_canon_behind.b8 top_canon_behind.b7_1 top_canon_behind.b7_2
theorem cclosure_nil (cb:Value) (w:World):Ct Try.prog top_canon_closure.id #[cb,.slice none 0 0] w fun v w'=>v = .slice none 0 0∧w=w':=by
 refine top_canon_closure.ct fun R hR=>?_
 unfold top_canon_closure.run
 simp -dsimp [go_sem]
 refine top_canon_closure.l5_intro _ _ _ _ _ (fun x y w'=>x = .slice none 0 0∧y = .slice none 0 0∧w'=w) (fun _ _ _=>0) ⟨rfl,rfl,rfl⟩ ?_
 rintro _ _ _ ⟨rfl,rfl,rfl⟩ C hC
 simp -dsimp [go_sem]
 unfold top_canon_closure.b25
 simp -dsimp [go_sem]
 unfold top_canon_closure.b3
 exact hR _ _ ⟨rfl,rfl⟩
section
variable {W w:World} {B:Nat} {g:Gr} {A1 A2 A3 A4:Option Addr} {c1 c2 c3 c4 bb mN mH cH:Nat} {ga:Nat→Nat} {null:List Bool} {hs:List (List Bool)}
theorem dot_bd (env:CanEnv W B g A1 A2 A3 A4 c1 c2 c3 c4 bb mN mH cH ga null hs) {x:It} (h1:x.1<g.prods.length) (h2:x.2≤(rgt g.prods x.1).length):x.2≤maxLen:=by
 obtain ⟨_,_,vr,_,_,_,_,_,hr,_⟩:=prods_at env.r4 h1
 obtain ⟨_,cr,_,hrl,hrm,_⟩:=slice_form hr
 have:rgt g.prods x.1=(g.prods[x.1]'h1).2.1:=by simp [rgt,h1]
 rw [this] at h2
 omega
theorem dot_bd2 (env:CanEnv W B g A1 A2 A3 A4 c1 c2 c3 c4 bb mN mH cH ga null hs) {x:It} {s:Int} (h1:x.1<g.prods.length) (h2:aft g.prods x=some s):x.2<9223372036854775807:=by
 obtain ⟨_,_,vr,_,_,_,_,_,hr,_⟩:=prods_at env.r4 h1
 obtain ⟨_,cr,_,hrl,hrm,_⟩:=slice_form hr
 have:rgt g.prods x.1=(g.prods[x.1]'h1).2.1:=by simp [rgt,h1]
 unfold aft at h2
 rw [this] at h2
 have:=(List.getElem?_eq_some_iff.1 h2).1
 unfold maxLen at hrm
 omega
theorem cbehind_ct (env:CanEnv W B g A1 A2 A3 A4 c1 c2 c3 c4 bb mN mH cH ga null hs) {M:List Ch} {cb left0:Nat} {s:List It1} {As:Option Addr} {cs:Nat} {sym:Nat} {X1 X2 X3 X4:Ch}
  (st:St noB W w (canB g A1 A2 A3 A4 c1 c2 c3 c4 bb cb left0::X1::X2::X3::X4::M)) (hl0:left0≤20000) (hlen:s.length≤20000) (hok:∀z∈s,ItOk g z)
  (hsr:∀w' Y0 Y1 Y2 Y3 Y4,St noB W w' (Y0::Y1::Y2::Y3::Y4::M)→(rSlice rFl).at1 w' w'.heap.size (.slice As s.length cs) s) :
  Ct Try.prog top_canon_behind.id #[.pointer (some ⟨cb,0,none⟩),.slice As s.length cs,.int .i64 sym] w fun v w'=>∃(left':Nat) (A:Option Addr) (c:Nat) (r:List It1),v = .slice A r.length c∧left'≤left0∧r.Pairwise fLt∧(∀z∈r,ItOk g z)∧r.length+left'≤left0∧(0<left'→∀z,z∈r↔Cl1 g.prods (FI g.terms.length null hs) (·∈behL g.prods s sym) z) ∧
   ∃X1 X3 X4,St noB W w' (canB g A1 A2 A3 A4 c1 c2 c3 c4 bb cb left'::X1::rowC 79 3 A r.length c (r.flatMap fV)::X3::X4::M):=by
 refine top_canon_behind.ct fun R hR=>?_
 have s0:=(st.nilRow 79 3).swapEnd 1 (by simp)
 have s0:St noB W w (canB g A1 A2 A3 A4 c1 c2 c3 c4 bb cb left0::rowC 79 3 none 0 0 []::X2::X3::X4::M):=s0
 have hgr:∀w',Chg noB W w'→rGram.atN w' B (.agg #[.slice A1 g.terms.length c1,.slice A2 g.nons.length c2,.slice A3 g.levels.length c3,.int .i64 g.start,.slice A4 g.prods.length c4]) g∧B≤w'.heap.size:=fun w' hc =>
  ⟨rGram_below env.gr (hc.below env.hB fun _ _=>id),by have:=hc.size;have:=env.hB;omega⟩
 unfold top_canon_behind.run
 simp -dsimp [go_sem]
 refine top_canon_behind.l6_intro _ _ _ _ _ _ _ (fun x y w'=>∃(i:Nat) (A:Option Addr) (c:Nat) (l:List It1),x = .slice A l.length c∧y = .int .i64 i∧i≤s.length∧l=behL g.prods (s.take i) sym∧(l=[]→A=none∧c=0)∧St noB W w' (canB g A1 A2 A3 A4 c1 c2 c3 c4 bb cb left0::rowC 79 3 A l.length c (l.flatMap fV)::X2::X3::X4::M)) (fun _ y _=>s.length-iv y)
  ⟨0,none,0,[],rfl,rfl,by omega,rfl,fun _=>⟨rfl,rfl⟩,s0⟩ ?_
 rintro _ _ w1 ⟨i,A,c,l,rfl,rfl,hi,hle,hnil,s1⟩ C hC
 have hll:l.length≤20000:=by
  rw [hle]
  have:=behL_len g.prods (s.take i) sym
  rw [List.length_take] at this
  omega
 simp -dsimp [go_sem]
 refine SPL_intro (fun p1=>?_) (fun p1=>?_) <;> simp at p1
 ·have wi:IntKind.i64.wrap ((i:Int)+1)=(i:Int)+1:=IntWalk.i64_in _ (by omega)
  have hat:=hsr w1 _ _ _ _ _ s1
  obtain ⟨ba,oa,rfl,_,k1,k2,k3⟩:=fls_at hat p1
  obtain ⟨z,hz⟩:∃z,s[i]=z:=⟨_,rfl⟩
  have hzo:=hok s[i] (List.getElem_mem p1)
  rw [hz] at k1 k2 k3 hzo
  have et:behL g.prods (s.take (i+1)) sym=if aft g.prods z.1=some (sym:Int) then l++[((z.1.1,z.1.2+1),z.2)] else l:=by
   rw [List.take_succ_eq_append_getElem p1,hz,behL_snoc,←hle]
  have y1:=(s1.box 0 rfl).1
  simp [boxAt] at y1
  have s2:=s1.old (Chg.refl noB w1).drew
  unfold top_canon_behind.b7_2
  simp -dsimp [go_sem,y1,p1,k1,k2]
  refine CALL_of (After_ct (hgr _ s2.chg).1 (hgr _ s2.chg).2 z.1 ⟨hzo.1,hzo.2.1⟩) ?_
  rintro _ w2 ⟨rfl,hc2⟩
  have s3:=s2.old hc2
  have hup:∀w' A2' c2' l2,l2=behL g.prods (s.take (i+1)) sym→(l2=[]→A2'=none∧c2'=0)→St noB W w' (canB g A1 A2 A3 A4 c1 c2 c3 c4 bb cb left0::rowC 79 3 A2' l2.length c2' (l2.flatMap fV)::X2::X3::X4::M)→top_canon_behind.b8 R C (.slice A2' l2.length c2') (.int .i64 i) w':=by
   intro w' A2' c2' l2 h1 h2 h3
   unfold top_canon_behind.b8
   simp -dsimp [go_sem,wi]
   exact hC _ _ _ ⟨i+1,A2',c2',l2,rfl,by simp,by omega,h1,h2,h3⟩ (by simp [iv];omega)
  have hiff:aftI g.prods z.1=(sym:Int)↔aft g.prods z.1=some (sym:Int):=by
   unfold aftI
   cases h:aft g.prods z.1 with
   | none=>simp
   | some q=>simp
  simp -dsimp [go_sem]
  refine SPL_intro (fun p2=>?_) (fun p2=>?_) <;> simp at p2
  ·have haf:=hiff.1 p2
   have hat2:=hsr w2 _ _ _ _ _ s3
   obtain ⟨ba',oa',eA,_,k1,k2,k3⟩:=fls_at hat2 p1
   injection eA with eA;injection eA with e1 e2;subst e1 e2
   rw [hz] at k1 k2 k3
   have hdl:=dot_bd env hzo.1 hzo.2.1
   unfold maxLen at hdl
   have hd2:z.1.2<9223372036854775807:=dot_bd2 env hzo.1 haf
   have wd:IntKind.i64.wrap ((z.1.2:Int)+1)=(z.1.2:Int)+1:=IntWalk.i64_in _ (by omega)
   unfold top_canon_behind.b7_1
   simp -dsimp [go_sem,p1,k1,k2,k3,wd]
   refine s3.append1d 1 rfl uFulls iFull rfl (by decide) (news:=[.int .i64 z.1.1,.int .i64 ((z.1.2:Int)+1),.int .i64 z.2]) rfl (by simp [Value.oneCell']) (by unfold maxLen;omega) (by unfold maxBytes;omega) ?_
   intro g2 cap w4 s5
   have s5:St noB W w4 (canB g A1 A2 A3 A4 c1 c2 c3 c4 bb cb left0::rowC 79 3 (some ⟨g2,0,none⟩) (l.length+1) cap (l.flatMap fV++[.int .i64 z.1.1,.int .i64 ((z.1.2:Int)+1),.int .i64 z.2])::X2::X3::X4::M):=s5
   have e2:l.flatMap fV++[.int .i64 z.1.1,.int .i64 ((z.1.2:Int)+1),.int .i64 z.2]=(l++[((z.1.1,z.1.2+1),z.2)]).flatMap fV:=by rw [List.flatMap_append];simp [fV]
   have e3:l.length+1=(l++[(((z.1.1,z.1.2+1),z.2):It1)]).length:=by simp
   rw [e2,e3] at s5
   rw [e3]
   exact hup w4 _ cap _ (by rw [et,if_pos haf]) (fun h=>by simp at h) s5
  ·exact hup w2 A c l (by rw [et,if_neg (fun h=>p2 (hiff.2 h))]) hnil s3
 ·have hie:i=s.length:=by omega
  rw [hie,List.take_length] at hle
  have hlok:∀z∈l,ItOk g z:=by rw [hle];exact behL_ok hok
  unfold top_canon_behind.b3
  by_cases hln:l=[]
  ·obtain ⟨rfl,rfl⟩:=hnil hln
   subst hln
   refine CALL_of (cclosure_nil _ _) ?_
   rintro _ _ ⟨rfl,rfl⟩
   have s2:=(s1.nilRow 79 3).swapEnd 2 (by simp)
   refine hR _ _ ⟨left0,none,0,[],rfl,Nat.le_refl _,List.Pairwise.nil,fun z h=>absurd h List.not_mem_nil,by simp,fun _ z=>⟨fun h=>absurd h List.not_mem_nil,fun h=>?_⟩,_,_,_,s2⟩
   rw [←hle] at h
   obtain ⟨y,hy⟩:=h.ne
   exact absurd hy List.not_mem_nil
  ·obtain ⟨g2,eg,_⟩:=s1.rowAt 1 rfl (j:=0) (by
    obtain ⟨z,r,rfl⟩:=List.exists_cons_of_ne_nil hln
    simp [fV])
   subst eg
   have s2:=s1.turn (k:=1) rfl (d:=qC 3 ⟨g2,0,none⟩ l.length c (l.flatMap fV)) fun F h=>row_q h
   refine CALL_of (cclosure_ct env (l0:=l) (a0:=⟨g2,0,none⟩) (cc0:=c) s2 hl0 (by omega) hlok) ?_
   rintro v w2 ⟨left',A',c',r,rfl,h1,h2,h3,h4,h5,h6⟩
   exact hR _ _ ⟨left',A',c',r,rfl,h1,h2,h3,h4,fun hp z=>by rw [←hle];exact h5 hp z,h6⟩
end
end Go.Proofs.Ytmoepnfobnpdiaa

/-
  The canonical collection: is a set there?
-/
namespace Go.Px.Cn
open Go.Px Go.Px.Scan
abbrev SK:=Option Addr×Nat×List It1
def rowS (x:SK):Ch:=rowC 79 3 x.1 x.2.2.length x.2.1 (x.2.2.flatMap fV)
def valS (x:SK):Value := .slice x.1 x.2.2.length x.2.1
def colM (aA:Option Addr) (cA:Nat) (K:List SK):List Ch:=[rowC 42 1 aA K.length cA (K.map valS),Ch.all (K.map rowS)]
theorem col_at {W w:World} {Y0 Y1 Y2 Y3 Y4:Ch} {aA:Option Addr} {cA:Nat} {K:List SK} (s:St noB W w (Y0::Y1::Y2::Y3::Y4::colM aA cA K)) {i:Nat} {x:SK} (hx:K[i]?=some x) :
  (∃gA,aA=some ⟨gA,0,none⟩∧w.cell? ⟨gA,i,none⟩=some (valS x))∧(rSlice rFl).at1 w w.heap.size (.slice x.1 x.2.2.length x.2.1) x.2.2:=by
 have hi:=(List.getElem?_eq_some_iff.1 hx).1
 constructor
 ·obtain ⟨gA,eA,cA',_⟩:=s.rowAt 5 rfl (j:=i) (by simpa using hi)
  refine ⟨gA,eA,?_⟩
  rw [cA',List.getElem_map,(List.getElem?_eq_some_iff.1 hx).2]
 ·obtain ⟨F,sF,_⟩:=s.inAll' 6 rfl
  exact fl_at1 sF i (by rw [List.getElem?_map,hx];rfl)
end Go.Px.Cn
namespace Go.Proofs.Ytmoepnfobnpdiaa
open Go.Px Go.Px.Scan Go.Px.Cn Go.RowKit
attribute [-go_sem] Builtin.append_ top_collection.b3 top_collection.b9 top_collection.b16 top_collection.b22 top_collection.b24 top_collection.b23_1 top_collection.b23 top_collection.b20 top_collection.b29 top_collection.b31 top_collection.b25 top_collection.b18_1 top_collection.b18 top_collection.b11 top_collection.b4 top_collection.b1_1
theorem scan_set {W w:World} {Y0 Y1 Y3 Y4:Ch} {aA A:Option Addr} {cA c:Nat} {K:List SK} {r:List It1} {x1 x6 x9:Value} {R:EP} {C6 C13:Value→VP}
  (s:St noB W w (Y0::Y1::rowC 79 3 A r.length c (r.flatMap fV)::Y3::Y4::colM aA cA K)) (hK:K.length≤1000) (hKl:∀x∈K,x.2.2.length≤20000) {th0:Bool} (hth0:th0=true↔r=[])
  (hgo:∀w' th,(th=true↔r=[]∨∃x∈K,x.2.2=r)→St noB W w' (Y0::Y1::rowC 79 3 A r.length c (r.flatMap fV)::Y3::Y4::colM aA cA K)→top_collection.b20 R C6 C13 x1 x6 (.slice aA K.length cA) x9 (.slice A r.length c) (.bool th) w') :
  top_collection.b25 R C6 C13 x1 x6 (.slice aA K.length cA) x9 (.slice A r.length c) (.bool th0) w:=by
 unfold top_collection.b25
 refine top_collection.l27_intro _ _ _ _ _ _ _ _ _ _ _ (fun x y w'=>∃(th:Bool) (k:Nat),x = .bool th∧y = .int .i64 k∧k≤K.length∧(th=true→r=[]∨∃x∈K,x.2.2=r)∧(th=false→r≠[]∧∀j x,j<k→K[j]?=some x→x.2.2≠r)∧St noB W w' (Y0::Y1::rowC 79 3 A r.length c (r.flatMap fV)::Y3::Y4::colM aA cA K)) (fun _ y _=>K.length-iv y)
  ⟨th0,0,rfl,rfl,by omega,fun h=>Or.inl (hth0.1 h),fun h=>⟨fun e=>by exact absurd (hth0.2 e) (by rw [h];simp),fun j x h=>by omega⟩,s⟩ ?_
 rintro _ _ w1 ⟨th,k,rfl,rfl,hk,h1,h2,s1⟩ C hC
 have hfin:(th=true∨k=K.length)→top_collection.b31 R C6 C13 C x1 x6 (.slice aA K.length cA) x9 (.slice A r.length c) (.bool th) (.int .i64 k) (.bool false) w1:=by
  intro h
  unfold top_collection.b31
  simp -dsimp [go_sem]
  refine hgo w1 th ⟨h1,fun h3=>?_⟩ s1
  cases th with
  | true=>rfl
  | false =>
   exfalso
   obtain ⟨h4,h5⟩:=h2 rfl
   rcases h with h | h
   ·cases h
   ·rcases h3 with h3 | ⟨x,hx,h3⟩
    ·exact h4 h3
    ·obtain ⟨j,hj⟩:=List.mem_iff_getElem?.1 hx
     exact h5 j x (by rw [h];exact (List.getElem?_eq_some_iff.1 hj).1) hj h3
 simp -dsimp [go_sem]
 refine SPL_intro (fun p1=>?_) (fun p1=>?_) <;> simp at p1
 ·cases th with
  | true =>
   simp -dsimp [go_sem]
   exact hfin (Or.inl rfl)
  | false =>
   have wk:IntKind.i64.wrap ((k:Int)+1)=(k:Int)+1:=IntWalk.i64_in _ (by omega)
   have hxk:K[k]?=some K[k]:=List.getElem?_eq_getElem p1
   obtain ⟨⟨gA,eA,hcell⟩,hat⟩:=col_at s1 hxk
   unfold valS at hcell
   subst eA
   have hr:=fl_at1 s1 2 rfl
   simp -dsimp [go_sem]
   unfold top_collection.b31
   simp -dsimp [go_sem]
   unfold top_collection.b29
   simp -dsimp [go_sem,p1,hcell]
   refine CALL_of (alike_ct hat hr (Nat.le_refl _) (Nat.le_refl _) (by have:=hKl K[k] (List.getElem_mem p1);omega)) ?_
   rintro _ w2 ⟨⟨b,rfl,hb⟩,hc2⟩
   have s2:=s1.old hc2
   simp -dsimp [go_sem,wk]
   refine hC _ _ _ ⟨b,k+1,rfl,by simp,by omega,fun h=>Or.inr ⟨K[k],List.getElem_mem p1,hb.1 h⟩,fun h=>⟨(h2 rfl).1,fun j x hj hx e=>?_⟩,s2⟩ (by simp [iv];omega)
   by_cases ej:j=k
   ·subst ej
    rw [hxk] at hx;injection hx with hx;subst hx
    rw [hb.2 e] at h;cases h
   ·exact (h2 rfl).2 j x (by omega) hx e
 ·exact hfin (Or.inr (by omega))
end Go.Proofs.Ytmoepnfobnpdiaa

/-
  The canonical collection: what is behind one symbol.
-/
namespace Go.Px.Cn
open Go.Px Go.Px.Scan
def asOf (K:List SK):List (List It1):=K.map fun x=>x.2.2
structure CKOk (g:Gr) (K:List SK):Prop where
 len:K.length≤150
 row:∀x∈K,x.2.2.Pairwise fLt∧(∀z∈x.2.2,ItOk g z)∧x.2.2.length≤20000
end Go.Px.Cn
namespace Go.Proofs.Ytmoepnfobnpdiaa
open Go.Px Go.Px.Scan Go.Px.Cn Go.RowKit
attribute [-go_sem] Builtin.append_ top_collection.b3 top_collection.b9 top_collection.b16 top_collection.b22 top_collection.b24 top_collection.b23_1 top_collection.b23 top_collection.b20 top_collection.b29 top_collection.b31 top_collection.b25 top_collection.b18_1 top_collection.b18 top_collection.b11 top_collection.b4 top_collection.b1_1
theorem uSets:Try.prog.underlying 35=some (.slice 42):=Try.underlying35
theorem iSet:(Try.prog.info? 42).map (fun i=>(i.zero,i.size,i.bytes))=some (some (.slice none 0 0),1,24):=by kernel_rfl
section
variable {W w:World} {B:Nat} {g:Gr} {A1 A2 A3 A4:Option Addr} {c1 c2 c3 c4 bb mN mH cH:Nat} {ga:Nat→Nat} {null:List Bool} {hs:List (List Bool)}
theorem sym_round (env:CanEnv W B g A1 A2 A3 A4 c1 c2 c3 c4 bb mN mH cH ga null hs) {cb left i sym:Nat} {aA:Option Addr} {cA:Nat} {K:List SK} {X1 X2 X3 X4:Ch} {a:SK} {R:EP} {C6 C13:Value→VP}
  (s:St noB W w (canB g A1 A2 A3 A4 c1 c2 c3 c4 bb cb left::X1::X2::X3::X4::colM aA cA K)) (hl0:left≤20000) (hK:CKOk g K) (ha:K[i]?=some a) (hcol:0<left→ColI g.prods (FI g.terms.length null hs) (asOf K) i)
  (hbad:∀w',Chg noB W w'→R (.returned (.tuple #[.slice none 0 0,.bool false])) w')
  (hgo:∀w' aA' cA' K' left' X1 X2 X3 X4,left'≤left→(∃t,K'=K++t)→CKOk g K'→(0<left'→ColI g.prods (FI g.terms.length null hs) (asOf K') i∧((∃z,Go1 g.prods (·∈a.2.2) (sym:Int) z)→∃a'∈asOf K',∀z,z∈a'↔Cl1 g.prods (FI g.terms.length null hs) (·∈behL g.prods a.2.2 sym) z)) →
   St noB W w' (canB g A1 A2 A3 A4 c1 c2 c3 c4 bb cb left'::X1::X2::X3::X4::colM aA' cA' K')→top_collection.b16 R C6 C13 (.slice aA' K'.length cA') (.int .i64 sym) w') :
  top_collection.b18 R C6 C13 (.int .i64 150) (.pointer (some ⟨cb,0,none⟩)) (.slice aA K.length cA) (.int .i64 i) (.int .i64 sym) w:=by
 have hil:=(List.getElem?_eq_some_iff.1 ha).1
 have hKl:=hK.len
 obtain ⟨hsrt,hiok,hlen⟩:=hK.row a (List.mem_of_getElem? ha)
 obtain ⟨⟨gA,eA,hcell⟩,hat⟩:=col_at s ha
 unfold valS at hcell
 subst eA
 unfold top_collection.b18
 simp -dsimp [go_sem,hil,hcell]
 refine CALL_of (cbehind_ct env (sym:=sym) s hl0 hlen hiok (fun w' Y0 Y1 Y2 Y3 Y4 h=>(col_at h ha).2)) ?_
 rintro _ w1 ⟨left',A,c,r,rfl,hll,hrs,hrok,hrl,hcl,X1',X3',X4',s1⟩
 have hcol':0<left'→ColI g.prods (FI g.terms.length null hs) (asOf K) i:=fun h=>hcol (by omega)
 unfold top_collection.b18_1
 simp -dsimp [go_sem]
 have hth0:((r.length:Int) == 0)=true↔r=[]:=by simp
 refine scan_set s1 (by omega) (fun x hx=>(hK.row x hx).2.2) hth0 fun w2 th hth s2=>?_
 unfold top_collection.b20
 cases th with
 | true =>
  simp -dsimp [go_sem]
  refine hgo w2 _ cA K left' _ _ _ _ hll ⟨[],by simp⟩ hK (fun hp=>⟨hcol' hp,fun ⟨z,hz⟩=>?_⟩) s2
  rcases hth.1 rfl with h | ⟨x,hx,h⟩
  ·have h1:z∈behL g.prods a.2.2 sym:=mem_behL.2 hz
   have h2:=(hcl hp z).2 (.base h1)
   rw [h] at h2;cases h2
  ·exact ⟨x.2.2,List.mem_map.2 ⟨x,hx,rfl⟩,fun z=>by rw [h];exact hcl hp z⟩
 | false =>
  have hne:r≠[]:=fun h=>by have:=hth.2 (Or.inl h);cases this
  simp -dsimp [go_sem]
  unfold top_collection.b23
  simp -dsimp [go_sem]
  refine SPL_intro (fun p1=>?_) (fun p1=>?_) <;> simp at p1
  ·unfold top_collection.b24
   simp -dsimp [go_sem]
   exact hbad _ s2.chg
  ·have y2:=(s2.box 0 rfl).1
   simp [boxAt] at y2
   unfold top_collection.b23_1
   simp -dsimp [go_sem,y2]
   unfold top_collection.b24
   refine SPL_intro (fun p2=>?_) (fun p2=>?_) <;> simp at p2
   ·exact hbad _ s2.chg
   ·unfold top_collection.b22
    simp -dsimp [go_sem]
    refine s2.append1 5 rfl uSets iSet rfl (by decide) (news:=[.slice A r.length c]) rfl (by simp [Value.oneCell']) (by unfold maxLen;omega) (by unfold maxBytes;omega) ?_
    intro gA2 cap w4 s4
    have s5:=s4.into 2 6 rfl rfl (by decide)
    have eK:(K++[((A,c,r):SK)]).map valS=K.map valS++[.slice A r.length c]:=by rw [List.map_append];rfl
    have eR:(K++[((A,c,r):SK)]).map rowS=K.map rowS++[rowC 79 3 A r.length c (r.flatMap fV)]:=by rw [List.map_append];rfl
    have eL:(K++[((A,c,r):SK)]).length=K.length+1:=by simp
    have hpos:0<left':=by omega
    rw [←eL]
    refine hgo w4 (some ⟨gA2,0,none⟩) cap (K++[(A,c,r)]) left' X1' Ch.emp X3' X4' hll ⟨_,rfl⟩ ⟨by rw [eL];omega,fun x hx=>?_⟩ (fun hp=>⟨?_,fun _=>⟨r,?_,fun z=>hcl hp z⟩⟩) ?_
    ·rcases List.mem_append.1 hx with hx | hx
     ·exact hK.row x hx
     ·rw [List.mem_singleton] at hx;subst hx
      exact ⟨hrs,hrok,by show r.length≤20000;omega⟩
    ·unfold asOf
     rw [List.map_append]
     exact (hcol' hp).snoc (a:=a.2.2) (s:=sym) (by unfold asOf;rw [List.getElem?_map,ha];rfl) (hcl hp) hne hrs
    ·unfold asOf;rw [List.map_append];simp
    ·unfold colM
     rw [eK,eR,eL]
     exact s5
end
end Go.Proofs.Ytmoepnfobnpdiaa

/-
  The canonical collection, whole.
-/
namespace Go.Px.Cn
open Go.Px Go.Px.Scan
/-- What is known of a collection in memory. -/
def CoR (w:World) (gA:Nat) (ss:List (List It1)):Prop:=∀(i:Nat) (a:List It1),ss[i]?=some a→∃Ai ci,w.cell? ⟨gA,i,none⟩=some (.slice Ai a.length ci)∧(rSlice rFl).at1 w w.heap.size (.slice Ai a.length ci) a
end Go.Px.Cn
namespace Go.Proofs.Ytmoepnfobnpdiaa
open Go.Px Go.Px.Scan Go.Px.Cn Go.RowKit
attribute [-go_sem] Builtin.append_ top_collection.b3 top_collection.b9 top_collection.b16 top_collection.b22 top_collection.b24 top_collection.b23_1 top_collection.b23 top_collection.b20 top_collection.b29 top_collection.b31 top_collection.b25 top_collection.b18_1 top_collection.b18 top_collection.b11 top_collection.b4 top_collection.b1_1
theorem bCan (a b c d:Option Addr) (n1 n2 n3 n4 d1 d2 d3 d4:Nat) (x y:Int) (p:Option Addr) (w:World):(Instr.build 76 #[(0,.agg #[.slice a n1 d1,.slice b n2 d2,.slice c n3 d3,.int .i64 x,.slice d n4 d4]),(1,.pointer p),(2,.int .i64 y)]).run Try.prog w = .ok (.agg #[.slice a n1 d1,.slice b n2 d2,.slice c n3 d3,.int .i64 x,.slice d n4 d4,.pointer p,.int .i64 y]) w:=by
 have e1:∀(A:Array Value) (k:Nat) (q:Int),Array.foldl (fun (cs:Array Value) (x:Value×Nat)=>cs.setIfInBounds (k+x.snd) x.fst) A (Value.int .i64 q).cells.zipIdx 0 1=A.setIfInBounds k (.int .i64 q):=fun A k q=>rfl
 have e2:∀(A:Array Value) (k:Nat),Array.foldl (fun (cs:Array Value) (x:Value×Nat)=>cs.setIfInBounds (k+x.snd) x.fst) A (Value.pointer p).cells.zipIdx 0 1=A.setIfInBounds k (.pointer p):=fun A k=>rfl
 simp [go_sem,e1,e2]
theorem collection_ct {w:World} {B:Nat} {vg:Value} {g:Gr} (hg:rGram.atN w B vg g) (hB:B≤w.heap.size) (hcl:ClosedP g) :
  Ct Try.prog top_collection.id #[vg,.int .i64 150] w fun v w'=>Chg noB w w'∧((∃v0,v = .tuple #[v0,.bool false])∨∃null hs gA c ss,v = .tuple #[.slice (some ⟨gA,0,none⟩) ss.length c,.bool true]∧TabOk g.terms.length g.prods null hs∧Lr1 g.prods (FI g.terms.length null hs) ss ∧
   (∀a∈ss,a.Pairwise fLt∧a.length≤20000)∧ss.length≤150∧CoR w' gA ss):=by
 refine top_collection.ct fun R hR=>?_
 obtain ⟨A1,c1,A2,c2,A3,c3,A4,c4,rfl,⟨m1,m2,m3,m4⟩,hst,hc0,hgr⟩:=box_all hg hB
 have s1:=(St.refl noB w).alloc #[.slice A1 g.terms.length c1,.slice A2 g.nons.length c2,.slice A3 g.levels.length c3,.int .i64 g.start,.slice A4 g.prods.length c4] 27
 unfold top_collection.run
 have y1:=(hgr _ (Chg.refl _ _)).k
 simp -dsimp [go_sem,y1]
 have hbl:Below B w (w.alloc (.cells #[.slice A1 g.terms.length c1,.slice A2 g.nons.length c2,.slice A3 g.levels.length c3,.int .i64 g.start,.slice A4 g.prods.length c4] 27)).drew:=s1.chg.drew.below hB fun _ _=>id
 have hg1:=rGram_below hg hbl
 have hB1:B≤(w.alloc (.cells #[.slice A1 g.terms.length c1,.slice A2 g.nons.length c2,.slice A3 g.levels.length c3,.int .i64 g.start,.slice A4 g.prods.length c4] 27)).drew.heap.size:=by have:=hbl.size;omega
 have s2:=s1.old (Chg.refl noB _).drew
 clear y1 s1 hgr hc0 hbl
 generalize (w.alloc (.cells #[.slice A1 g.terms.length c1,.slice A2 g.nons.length c2,.slice A3 g.levels.length c3,.int .i64 g.start,.slice A4 g.prods.length c4] 27)).drew=w1 at s2 hg1 hB1 ⊢
 generalize w.heap.size=q at s2 ⊢
 refine CALL_of (Table_ct hg1 hB1 hcl) ?_
 rintro _ W ⟨B1,B2,B3,B4,d1,d2,d3,d4,bb,mN,mH,cH,ga,null,hs,hvg,rfl,hcW,hnl,hhl,hhc,htab,hout,hbg⟩
 injection hvg with hvg
 injection hvg with hvg
 simp at hvg
 obtain ⟨⟨rfl,rfl⟩,⟨rfl,rfl⟩,⟨rfl,rfl⟩,⟨rfl,rfl⟩⟩:=hvg
 have s3:=s2.old hcW
 have env:CanEnv W B g A1 A2 A3 A4 c1 c2 c3 c4 bb mN mH cH ga null hs :=
  ⟨rGram_below hg1 (hcW.below hB1 fun _ _=>id),by have:=hcW.size;omega,hcl,hnl,hhl,hhc,hout,hbg⟩
 have hq:∀w',Chg noB W w'→boxAt w' q 0 [.slice A1 g.terms.length c1,.slice A2 g.nons.length c2,.slice A3 g.levels.length c3,.int .i64 g.start,.slice A4 g.prods.length c4]:=fun w' hc=>((s3.old hc).box 0 rfl).1
 have hcw:∀w',Chg noB W w'→Chg noB w w':=fun w' hc=>s3.chg.trans hc
 have yq:=hq W (Chg.refl _ _)
 simp [boxAt] at yq
 have t1:=(((((St.refl noB W).alloc #[.slice A1 g.terms.length c1,.slice A2 g.nons.length c2,.slice A3 g.levels.length c3,.int .i64 g.start,.slice A4 g.prods.length c4,.pointer (some ⟨bb,0,none⟩),.int .i64 20000] 76).lit 79 3 1 #[.int .i64 0,.int .i64 0,.int .i64 0] (by simp [maxLen]) rfl).push (c:=Ch.emp) trivial).push (c:=Ch.emp) trivial).push (c:=Ch.emp) trivial
 have e1:(W.alloc (.cells #[.slice A1 g.terms.length c1,.slice A2 g.nons.length c2,.slice A3 g.levels.length c3,.int .i64 g.start,.slice A4 g.prods.length c4,.pointer (some ⟨bb,0,none⟩),.int .i64 20000] 76)).heap.size=W.heap.size+1:=by simp
 rw [e1] at t1
 unfold top_collection.b1_1
 simp -dsimp [go_sem,yq,↓bCan,↓bFl0]
 generalize (W.alloc (.cells #[.slice A1 g.terms.length c1,.slice A2 g.nons.length c2,.slice A3 g.levels.length c3,.int .i64 g.start,.slice A4 g.prods.length c4,.pointer (some ⟨bb,0,none⟩),.int .i64 20000] 76)).alloc (.cells #[.int .i64 0,.int .i64 0,.int .i64 0] 79)=w2 at t1 ⊢
 generalize W.heap.size=cb at t1 ⊢
 have t2:=t1.turn (k:=1) rfl (d:=qC 3 ⟨cb+1,0,none⟩ 1 1 [.int .i64 0,.int .i64 0,.int .i64 0]) fun F h=>row_q h
 have t2:St noB W w2 (canB g A1 A2 A3 A4 c1 c2 c3 c4 bb cb 20000::qC 3 ⟨cb+1,0,none⟩ ([(((0,0),0):It1)].length) 1 ([(((0,0),0):It1)].flatMap fV)::Ch.emp::Ch.emp::Ch.emp::[]):=t2
 have hok0:∀z∈[(((0,0),0):It1)],ItOk g z:=by
  intro z hz
  rw [List.mem_singleton] at hz;subst hz
  refine ⟨(closed_left0 hcl).2,Nat.zero_le _,?_⟩
  have:=hcl.syms.t0
  cases h:g.terms with
  | nil=>rw [h] at this;cases this
  | cons x r=>simp
 have hct:=cclosure_ct env (cb:=cb) (left0:=20000) (a0:=⟨cb+1,0,none⟩) (cc0:=1) (l0:=[(((0,0),0):It1)]) t2 (by omega) (by simp) hok0
 refine CALL_of hct ?_
 rintro _ w3 ⟨left,A,c,r,rfl,hll,hrs,hrok,hrl,hrcl,X1,X3,X4,t3⟩
 have t4:=((t3.lit 42 1 1 #[.slice A r.length c] (by simp [maxLen]) rfl).push (c:=Ch.all (([]:List SK).map rowS)) ⟨fun _=>0,fun i h=>absurd rfl h,fun k c h=>by simp at h⟩).into 2 6 rfl rfl (by decide)
 simp -dsimp [go_sem]
 generalize w3.alloc (.cells #[.slice A r.length c] 42)=w4 at t4 ⊢
 generalize w3.heap.size=q3 at t4 ⊢
 have t5:St noB W w4 (canB g A1 A2 A3 A4 c1 c2 c3 c4 bb cb left::X1::Ch.emp::X3::X4::colM (some ⟨q3,0,none⟩) 1 [((A,c,r):SK)]):=t4
 have hK0:CKOk g [((A,c,r):SK)]:=⟨by simp,fun x hx=>by
  rw [List.mem_singleton] at hx;subst hx
  exact ⟨hrs,hrok,by show r.length≤20000;omega⟩⟩
 have hcol0:0<left→ColI g.prods (FI g.terms.length null hs) (asOf [((A,c,r):SK)]) 0:=fun hp=>ColI.first (fun z=>hrcl hp z) hrs
 have hT:=hcl.syms.t1
 have hN:=hcl.syms.n1
 have hbad:∀w',Chg noB W w'→R (.returned (.tuple #[.slice none 0 0,.bool false])) w':=fun w' hc=>hR _ _ ⟨hcw w' hc,Or.inl ⟨_,rfl⟩⟩
 clear t1 t2 t3 t4 hct
 obtain ⟨K0,hK0e⟩:∃K0,[((A,c,r):SK)]=K0:=⟨_,rfl⟩
 have hlK0:K0.length=1:=by rw [←hK0e];rfl
 rw [hK0e] at t5 hK0 hcol0
 have e1:(1:Nat)=K0.length:=hlK0.symm
 unfold top_collection.b4
 refine top_collection.l6_intro _ _ _ _ _ _ _ (fun x y w'=>∃(i:Nat) (aA:Option Addr) (cA:Nat) (K:List SK) (left:Nat) (X1 X2 X3 X4:Ch),x = .slice aA K.length cA∧y = .int .i64 i∧i≤K.length∧0<K.length∧left≤20000∧CKOk g K∧(0<left→ColI g.prods (FI g.terms.length null hs) (asOf K) i)∧St noB W w' (canB g A1 A2 A3 A4 c1 c2 c3 c4 bb cb left::X1::X2::X3::X4::colM aA cA K)) (fun _ y _=>151-iv y)
  ⟨0,some ⟨q3,0,none⟩,1,K0,left,_,_,_,_,by rw [hlK0],rfl,by omega,by omega,hll,hK0,hcol0,t5⟩ ?_
 rintro _ _ w5 ⟨i,aA,cA,K,left5,Y1,Y2,Y3,Y4,rfl,rfl,hi,hKp,hl5,hK,hcol,t6⟩ C hC
 have hKl:=hK.len
 have wi:IntKind.i64.wrap ((i:Int)+1)=(i:Int)+1:=IntWalk.i64_in _ (by omega)
 simp -dsimp [go_sem]
 refine SPL_intro (fun p1=>?_) (fun p1=>?_) <;> simp at p1
 ·have ha:K[i]?=some K[i]:=List.getElem?_eq_getElem p1
  obtain ⟨a,hae⟩:∃a,K[i]=a:=⟨_,rfl⟩
  rw [hae] at ha
  unfold top_collection.b11
  refine top_collection.l13_intro _ _ _ _ _ _ _ _ _ (fun x y w'=>∃(sym:Nat) (aA:Option Addr) (cA:Nat) (K:List SK) (left:Nat) (X1 X2 X3 X4:Ch),x = .slice aA K.length cA∧y = .int .i64 sym∧1≤sym∧sym≤g.terms.length+g.nons.length∧i<K.length∧K[i]?=some a∧left≤20000∧CKOk g K∧(0<left→ColI g.prods (FI g.terms.length null hs) (asOf K) i∧∀s:Nat,1≤s→s<sym→(∃z,Go1 g.prods (·∈a.2.2) (s:Int) z)→∃a'∈asOf K,∀z,z∈a'↔Cl1 g.prods (FI g.terms.length null hs) (·∈behL g.prods a.2.2 s) z)∧St noB W w' (canB g A1 A2 A3 A4 c1 c2 c3 c4 bb cb left::X1::X2::X3::X4::colM aA cA K)) (fun _ y _=>g.terms.length+g.nons.length-iv y)
   ⟨1,aA,cA,K,left5,_,_,_,_,rfl,rfl,by omega,by have:=hcl.syms.n0;omega,p1,ha,hl5,hK,fun hp=>⟨hcol hp,fun s h1 h2=>by omega⟩,t6⟩ ?_
  rintro _ _ w6 ⟨sym,aA6,cA6,K6,left6,Z1,Z2,Z3,Z4,rfl,rfl,hs1,hs2,hi6,ha6,hl6,hK6,hcol6,t7⟩ D hD
  have ws:IntKind.i64.wrap ((sym:Int)+1)=(sym:Int)+1:=IntWalk.i64_in _ (by omega)
  have yq6:=hq w6 t7.chg
  simp [boxAt] at yq6
  simp -dsimp [go_sem,yq6]
  have hg6:=rGram_below env.gr (t7.chg.below env.hB fun _ _=>id)
  refine CALL_of (Symbols_ct hg6 (by have:=t7.chg.size;have:=env.hB;omega) (by omega)) ?_
  rintro _ w7 ⟨rfl,hc7⟩
  have t8:=t7.old hc7
  simp -dsimp [go_sem]
  refine SPL_intro (fun p2=>?_) (fun p2=>?_) <;> simp at p2
  ·refine sym_round env t8 hl6 hK6 ha6 (fun hp=>(hcol6 hp).1) hbad fun w8 aA8 cA8 K8 left8 V1 V2 V3 V4 h1 ⟨t,ht⟩ h2 h3 t9=>?_
   unfold top_collection.b16
   simp -dsimp [go_sem,ws]
   have ha8:K8[i]?=some a:=by rw [ht,List.getElem?_append_left hi6];exact ha6
   refine hD _ _ _ ⟨sym+1,aA8,cA8,K8,left8,_,_,_,_,rfl,by simp,by omega,by omega,(List.getElem?_eq_some_iff.1 ha8).1,ha8,by omega,h2,fun hp=>⟨(h3 hp).1,fun s h4 h5 h6=>?_⟩,t9⟩ (by simp [iv];omega)
   by_cases e:s=sym
   ·subst e;exact (h3 hp).2 h6
   ·obtain ⟨a',ha',h7⟩:=(hcol6 (by omega)).2 s h4 (by omega) h6
    refine ⟨a',?_,h7⟩
    rw [ht];unfold asOf at ha' ⊢;rw [List.map_append];exact List.mem_append_left _ ha'
  ·unfold top_collection.b9
   simp -dsimp [go_sem,wi]
   refine hC _ _ _ ⟨i+1,aA6,cA6,K6,left6,_,_,_,_,rfl,by simp,by omega,by omega,hl6,hK6,fun hp=>?_,t8⟩ (by simp [iv];omega)
   refine (hcol6 hp).1.next (a:=a.2.2) (by unfold asOf;rw [List.getElem?_map,ha6];rfl) fun s ⟨z,hz⟩=>?_
   obtain ⟨y,hy1,hy2,hy3⟩:=hz
   have hrg:=aft_mem hy2
   have hpo:=hcl
   obtain ⟨hyk,_,_⟩:=(hK6.row a (List.mem_of_getElem? ha6)).2.1 _ hy1
   have hsy:=(hcl.syms' (g.prods[y.1]'hyk) (List.getElem_mem hyk)).2 s (by
    have:rgt g.prods y.1=(g.prods[y.1]'hyk).2.1:=by simp [rgt,hyk]
    rw [←this];exact hrg)
   obtain ⟨sn,hsn⟩:∃n:Nat,s=n:=⟨s.toNat,by omega⟩
   subst hsn
   exact (hcol6 hp).2 sn (by omega) (by omega) ⟨z,y,hy1,hy2,hy3⟩
 ·have hie:i=K.length:=by omega
  have y6:=(t6.box 0 rfl).1
  simp [boxAt] at y6
  unfold top_collection.b3
  simp -dsimp [go_sem,y6]
  have t7:=t6.old (Chg.refl noB w5).drew
  obtain ⟨⟨gA,eA,_⟩,_⟩:=col_at t7 (i:=0) (x:=K[0]) (List.getElem?_eq_getElem hKp)
  subst eA
  by_cases hp:0<left5
  ·have e2:decide (0<left5)=true:=decide_eq_true hp
   have hlen:(asOf K).length=K.length:=List.length_map ..
   have hC1:=hcol hp
   rw [hie,←hlen] at hC1
   refine hR _ _ ⟨hcw _ t7.chg,Or.inr ⟨null,hs,gA,cA,asOf K,by rw [hlen];simp [hp],htab,hC1.fin,fun a ha=>?_,by omega,fun j a hj=>?_⟩⟩
   ·obtain ⟨x,hx,rfl⟩:=List.mem_map.1 ha
    obtain ⟨h1,_,h3⟩:=hK.row x hx
    exact ⟨h1,h3⟩
   ·unfold asOf at hj
    rw [List.getElem?_map] at hj
    obtain ⟨x,hx,rfl⟩:=Option.map_eq_some_iff.1 hj
    obtain ⟨⟨gA',eA',hcell⟩,hat⟩:=col_at t7 hx
    injection eA' with eA';injection eA' with eA';subst eA'
    exact ⟨x.1,x.2.1,hcell,hat⟩
  ·refine hR _ _ ⟨hcw _ t7.chg,Or.inl ⟨.slice (some ⟨gA,0,none⟩) K.length cA,?_⟩⟩
   have:left5=0:=by omega
   subst this
   rfl
end Go.Proofs.Ytmoepnfobnpdiaa

/-
  lr0.Closure.
-/
namespace Go.Proofs.Ytmoepnfobnpdiaa
open Go.Px Go.Px.Scan Go.Px.Cn Go.RowKit
attribute [-go_sem] Builtin.append_ lr0_Closure.b3 lr0_Closure.b5 lr0_Closure.b4_1 lr0_Closure.b4 lr0_maker_fits.b3 lr0_maker_fits.b9 lr0_maker_fits.b12 lr0_maker_fits.b11_1 lr0_maker_fits.b11_2 lr0_maker_fits.b11_3 lr0_maker_fits.b11
theorem mfits_ct {W w:World} {mb:Nat} {A4:Option Addr} {c4:Nat} {P:Prs} (hm:MkR W mb A4 c4 P) (hW:Chg noB W w) {B c:Nat} {A:Option Addr} {l:List It} (h:(rSlice rIt).at1 w B (.slice A l.length c) l) (hB:B≤w.heap.size) (hl:l.length≤500000) (hv:Val P l) :
  Ct Try.prog lr0_maker_fits.id #[.pointer (some ⟨mb,0,none⟩),.slice A l.length c] w fun v w'=>v = .bool true∧Chg noB w w':=by
 refine lr0_maker_fits.ct fun R hR=>?_
 unfold lr0_maker_fits.run
 simp -dsimp [go_sem]
 refine lr0_maker_fits.l6_intro _ _ _ _ _ _ (fun y w'=>∃i:Nat,y = .int .i64 i∧i≤l.length∧Chg noB w w') (fun y _=>l.length-iv y) ⟨0,rfl,by omega,Chg.refl _ _⟩ ?_
 rintro _ w1 ⟨i,rfl,hi,hc1⟩ C hC
 have wi:IntKind.i64.wrap ((i:Int)+1)=(i:Int)+1:=IntWalk.i64_in _ (by omega)
 simp -dsimp [go_sem]
 refine SPL_intro (fun p1=>?_) (fun p1=>?_) <;> simp at p1
 ·obtain ⟨b,o,rfl,hb,k1,k2⟩:=its_at (Rep.below h (hc1.below hB fun _ _=>id)) p1
  have hvi:=hv l[i] (List.getElem_mem p1)
  obtain ⟨x,hx⟩:∃x,l[i]=x:=⟨_,rfl⟩
  rw [hx] at k1 k2 hvi
  obtain ⟨p,d⟩:=x
  simp only at k1 k2 hvi
  have s2:=(St.refl noB w1).alloc #[.int .i64 p,.int .i64 d] 57
  unfold lr0_maker_fits.b11
  simp -dsimp [go_sem,p1,k1,k2]
  have hc2:Chg noB w1 (w1.alloc (.cells #[.int .i64 p,.int .i64 d] 57)):=(Chg.refl _ _).alloc _
  generalize w1.alloc (.cells #[.int .i64 p,.int .i64 d] 57)=w2 at s2 hc2 ⊢
  generalize w1.heap.size=q at s2 ⊢
  have y2:=(s2.box 0 rfl).1
  simp [boxAt] at y2
  have hcW:=(hW.trans hc1).trans hc2
  obtain ⟨m1,m2⟩:=hm.1 w2 hcW
  obtain ⟨b4,o4,vr,rfl,hb4,x1,x2,x3,hr,_⟩:=prods_at m2 hvi.1
  obtain ⟨Ar,cr,rfl,hrl,hrm,_⟩:=slice_form hr
  have hd:(d:Int)≤(P[p]'hvi.1).2.1.length:=by
   have:=hvi.2
   unfold rgt at this
   rw [List.getD_eq_getElem?_getD,List.getElem?_eq_getElem hvi.1] at this
   have:d≤(P[p]'hvi.1).2.1.length:=this
   omega
  have hdn:¬((P[p]'hvi.1).2.1.length:Int)<d:=by omega
  have e1:decide ((p:Int)<0)=false:=decide_eq_false (by omega)
  have e2:decide ((d:Int)<0)=false:=decide_eq_false (by omega)
  have e3:decide (P.length≤p)=false:=decide_eq_false (by have:=hvi.1;omega)
  have e4:decide ((P[p]'hvi.1).2.1.length<d)=false:=decide_eq_false (by omega)
  have hp1:=hvi.1
  simp -dsimp only [go_sem,e1]
  unfold lr0_maker_fits.b11_3
  simp -dsimp [go_sem,y2,m1,e3]
  unfold lr0_maker_fits.b11_2
  simp -dsimp [go_sem,y2,e2]
  unfold lr0_maker_fits.b11_1
  simp -dsimp [go_sem,y2,m1,hp1,x2,e4]
  unfold lr0_maker_fits.b12
  simp -dsimp [go_sem]
  unfold lr0_maker_fits.b9
  simp -dsimp [go_sem,wi]
  exact hC _ _ ⟨i+1,by simp,by omega,(hc1.trans hc2).drew⟩ (by simp [iv];omega)
 ·unfold lr0_maker_fits.b3
  exact hR _ _ ⟨rfl,hc1⟩
theorem Closure_ct {w:World} {B B2 c:Nat} {vg:Value} {g:Gr} {A:Option Addr} {l:List It} (hg:rGram.atN w B vg g) (hB:B≤w.heap.size) (hcl:ClosedP g) (h:(rSlice rIt).at1 w B2 (.slice A l.length c) l) (hB2:B2≤w.heap.size)
  (hl:l.length≤500000) (hne:l≠[]) (hv:Val g.prods l) (hnd:l.Nodup) (h0:∀x∈l,x.2=0→x=(0,0)) :
  Ct Try.prog lr0_Closure.id #[vg,.slice A l.length c] w fun v w'=>∃(a:Addr) (r:List It),v = .tuple #[.slice (some a) r.length r.length,.int .i64 0]∧r.Pairwise itLt∧(∀x,x∈r↔Cl0 g.prods (·∈l) x)∧r.length≤l.length+g.prods.length∧St noB w w' [qC 2 a r.length r.length (r.flatMap itV)]:=by
 refine lr0_Closure.ct fun R hR=>?_
 obtain ⟨A1,c1,A2,c2,A3,c3,A4,c4,rfl,⟨m1,m2,m3,m4⟩,hst,hc0,hgr⟩:=box_all hg hB
 have hP:=hcl.prods.c1
 unfold lr0_Closure.run
 have y1:=(hgr _ (Chg.refl _ _)).k
 simp -dsimp [go_sem,y1]
 have hup:∀w',Chg noB (w.alloc (.cells #[.slice A1 g.terms.length c1,.slice A2 g.nons.length c2,.slice A3 g.levels.length c3,.int .i64 g.start,.slice A4 g.prods.length c4] 27)) w'→rGram.atN w' B (.agg #[.slice A1 g.terms.length c1,.slice A2 g.nons.length c2,.slice A3 g.levels.length c3,.int .i64 g.start,.slice A4 g.prods.length c4]) g∧B≤w'.heap.size:=fun w' hc =>
  ⟨rGram_below hg ((hc0.trans hc).below hB fun _ _=>id),(hgr _ hc).sz⟩
 generalize w.alloc (.cells #[.slice A1 g.terms.length c1,.slice A2 g.nons.length c2,.slice A3 g.levels.length c3,.int .i64 g.start,.slice A4 g.prods.length c4] 27)=w1 at hc0 hgr hup y1 ⊢
 refine CALL_of (of_ct (hup w1 (Chg.refl _ _)).1 (hup w1 (Chg.refl _ _)).2 hP fun p hp=>(closed_syms hcl p hp).1) ?_
 rintro _ w2 ⟨mb,B4,d4,rfl,hc2,hm⟩
 have y2:=(hgr _ hc2).k
 unfold lr0_Closure.b4
 simp -dsimp [go_sem,y2]
 refine CALL_of (Closed_ct (hup w2 hc2).1 (hup w2 hc2).2) ?_
 rintro _ w3 ⟨rfl,hc3⟩
 rw [closedB_iff.2 hcl]
 simp -dsimp [go_sem]
 unfold lr0_Closure.b4_1
 have hl3:∀w',Chg noB w2 w'→(rSlice rIt).at1 w' B2 (.slice A l.length c) l∧B2≤w'.heap.size:=fun w' hc=>by
  have h9:=(hc0.trans hc2).trans hc
  exact ⟨Rep.below h (h9.below hB2 fun _ _=>id),by have:=h9.size;omega⟩
 refine CALL_of (mfits_ct hm hc3 (hl3 w3 hc3).1 (hl3 w3 hc3).2 hl hv) ?_
 rintro _ w4 ⟨rfl,hc4⟩
 have hc24:=hc3.trans hc4
 simp -dsimp [go_sem]
 unfold lr0_Closure.b5
 simp -dsimp [go_sem]
 unfold lr0_Closure.b3
 refine CALL_of (closure_ct hm hc24 hP (symOk_of hcl) (hl3 w4 hc24).1 (hl3 w4 hc24).2 hl hne hv hnd h0) ?_
 rintro _ w5 ⟨a,r,rfl,h1,h2,h3,s5⟩
 exact hR _ _ ⟨a,r,rfl,h1,h2,h3,(((St.start ((hc0.trans hc2).trans hc24)).seq s5).pick [0] (by simp) rfl)⟩
end Go.Proofs.Ytmoepnfobnpdiaa

/-
  The document's answer for reach: Used, whole; Useful.
-/
namespace Go.Proofs.Ytmoepnfobnpdiaa
open Go.Px Go.Px.Scan Go.Px.Cn Go.RowKit
attribute [-go_sem] Builtin.append_ ref06_Used.b3 ref06_Used.b14 ref06_Used.b23 ref06_Used.b26 ref06_Used.b26_1 ref06_Used.b25_1 ref06_Used.b25 ref06_Used.b18 ref06_Used.b28 ref06_Used.b27_1 ref06_Used.b27 ref06_Used.b9 ref06_Used.b4 ref06_Used.b1_1 ref06_Used.b1_2
theorem SndM.put {nT:Nat} {P:Prs} {ms:List Bool} (h:SndM nT P ms) {j:Nat} {b:Bool} (hj:b=true→Pd nT P ((nT:Int)+j)):SndM nT P (ms.set j b):=by
 intro i hi
 by_cases e:j=i
 ·subst e
  rw [List.getD_eq_getElem?_getD,List.getElem?_set_self'] at hi
  cases b with
  | true=>exact hj rfl
  | false=>cases hx:ms[j]? <;> simp [hx] at hi
 ·refine h i ?_
  rw [List.getD_eq_getElem?_getD,List.getElem?_set_ne e] at hi
  rw [List.getD_eq_getElem?_getD];exact hi
theorem Used_ct {w:World} {B:Nat} {vg:Value} {g:Gr} (hg:rGram.atN w B vg g) (hB:B≤w.heap.size) (hcl:ClosedP g) :
  Ct Try.prog ref06_Used.id #[vg] w fun v w'=>∃m ms,v = .slice (some ⟨m,0,none⟩) ms.length ms.length∧ms.length=g.nons.length∧St noB w w' [rowC 4 1 (some ⟨m,0,none⟩) ms.length ms.length (boolV ms)]∧SndM g.terms.length g.prods ms:=by
 refine ref06_Used.ct fun R hR=>?_
 obtain ⟨A1,c1,A2,c2,A3,c3,A4,c4,rfl,⟨m1,m2,m3,m4⟩,hst,hc0,hgr⟩:=box_all hg hB
 have hr4:(rSlice rPr).at1 w B (.slice A4 g.prods.length c4) g.prods:=by obtain ⟨_,_,_,_,_,_,_,_,e,_,_,_,_,h5,_⟩:=(rGram_open hg).ex;injection e with e;injection e with e;simp at e;rw [e.2.2.2.1,e.2.2.2.2];exact h5
 have hr2:(rSlice rStr).at1 w B (.slice A2 g.nons.length c2) g.nons:=by obtain ⟨_,_,_,_,_,_,_,_,e,_,h5,_⟩:=(rGram_open hg).ex;injection e with e;injection e with e;simp at e;rw [e.2.1.1,e.2.1.2];exact h5
 have hT:=hcl.syms.t1
 have hN:=hcl.syms.n1
 have hn0:=hcl.syms.n0
 have hs0:=hcl.prods.s0
 have hs1:=hcl.prods.s1
 have s1:=(St.refl noB w).alloc #[.slice A1 g.terms.length c1,.slice A2 g.nons.length c2,.slice A3 g.levels.length c3,.int .i64 g.start,.slice A4 g.prods.length c4] 27
 unfold ref06_Used.run
 have y1:=(hgr _ (Chg.refl _ _)).k
 simp -dsimp [go_sem,y1]
 have hb1:=s1.chg.below hB fun _ _=>id
 have hB1:B≤(w.alloc (.cells #[.slice A1 g.terms.length c1,.slice A2 g.nons.length c2,.slice A3 g.levels.length c3,.int .i64 g.start,.slice A4 g.prods.length c4] 27)).heap.size:=by have:=s1.chg.size;omega
 have hg1:=rGram_below hg hb1
 clear y1
 generalize w.alloc (.cells #[.slice A1 g.terms.length c1,.slice A2 g.nons.length c2,.slice A3 g.levels.length c3,.int .i64 g.start,.slice A4 g.prods.length c4] 27)=w1 at s1 hc0 hgr hb1 hB1 hg1 ⊢
 generalize w.heap.size=q at s1 hgr ⊢
 refine CALL_of (Marks_ct hg1 hB1 hcl) ?_
 rintro _ w2 ⟨m,may,rfl,hml,sm,hmay⟩
 have s2:=s1.seq sm
 have y2:=(s2.box 0 rfl).1
 obtain ⟨N,hNe⟩:∃N,g.nons.length=N:=⟨_,rfl⟩
 have s3:=s2.lit 4 1 N (Array.replicate N (Value.bool false)) (by unfold maxLen;omega) (by simp)
 have e0:(Array.replicate N (Value.bool false)).toList=boolV (List.replicate N false):=by simp [boolV]
 rw [e0] at s3
 obtain ⟨CB,hCB⟩:∃CB,boxC q 27 [.slice A1 g.terms.length c1,.slice A2 N c2,.slice A3 g.levels.length c3,.int .i64 g.start,.slice A4 g.prods.length c4]=CB:=⟨_,rfl⟩
 rw [hNe] at s3
 rw [hNe] at hml hs1
 have hst1:∃js:Nat,g.start-(g.terms.length:Int)=js:=⟨(g.start-(g.terms.length:Int)).toNat,by omega⟩
 obtain ⟨js,hjs⟩:=hst1
 have wj:IntKind.i64.wrap (g.start-(g.terms.length:Int))=(js:Int):=by rw [hjs];exact IntWalk.i64_in _ (by omega)
 have hjl:js<N:=by omega
 have y21:=y2.2.1
 rw [hNe] at y21
 have hmk:=mkFlags w2 N (by unfold maxBytes;omega)
 generalize w2.alloc (.cells (Array.replicate N (Value.bool false)) 4)=w3 at s3 hmk
 generalize w2.heap.size=o at s3 hmk
 have s3:St noB w w3 [boxC q 27 (.slice A1 g.terms.length c1::[.slice A2 N c2,.slice A3 g.levels.length c3,.int .i64 g.start,.slice A4 g.prods.length c4]),rowC 4 1 (some ⟨m,0,none⟩) may.length may.length (boolV may),rowC 4 1 (some ⟨o,0,none⟩) N N (boolV (List.replicate N false))]:=s3
 have y3:=(s3.box 0 rfl).1
 simp [boxAt] at y3
 have hjm:js<may.length:=by omega
 obtain ⟨cm,_⟩:=bool_at s3 (k:=1) rfl (ms:=may) (j:=js) hjm
 obtain ⟨co,fo⟩:=bool_at s3 (k:=2) rfl (ms:=List.replicate N false) (j:=js) (by simpa using hjl)
 obtain ⟨bs,hbs⟩:∃b,may[js]=b:=⟨_,rfl⟩
 rw [hbs] at cm
 have s4:=bool_set s3 (k:=2) rfl (ms:=List.replicate N false) js bs
 unfold ref06_Used.b1_2
 simp -dsimp [go_sem,y21,hmk,y3,wj,hml,hjl,cm,co,fo]
 have hpst:bs=true→Pd g.terms.length g.prods g.start:=fun hb=>by
  have:=hmay js (by rw [List.getD_eq_getElem?_getD,List.getElem?_eq_getElem hjm,hbs,hb];rfl)
  rw [←hjs,show (g.terms.length:Int)+(g.start-(g.terms.length:Int))=g.start by omega] at this
  exact this
 have hp0:bs=true→Pd g.terms.length g.prods g.terms.length:=fun hb=>by
  have ha:=hcl.added
  have hm0:((g.terms.length:Int),[g.start],(0:Int))∈g.prods:=List.mem_of_mem_head? ha
  exact Pd.non hm0 fun s hs=>by simp at hs;subst hs;exact hpst hb
 have hsn4:SndM g.terms.length g.prods ((List.replicate N false).set js bs):=by
  cases bs with
  | true=>exact (SndM.none _ _ _).mark (by rw [←hjs,show (g.terms.length:Int)+(g.start-(g.terms.length:Int))=g.start by omega];exact hpst rfl)
  | false =>
   have e:(List.replicate N false).set js false=List.replicate N false:=by
    apply List.ext_getElem (by simp)
    intro i h1 h2
    rw [List.getElem_set];split <;> simp
   rw [e];exact SndM.none _ _ _
 generalize w3.setCell ⟨o,js,none⟩ (.bool bs)=w4 at s4 ⊢
 have s4:St noB w w4 [boxC q 27 (.slice A1 g.terms.length c1::[.slice A2 N c2,.slice A3 g.levels.length c3,.int .i64 g.start,.slice A4 g.prods.length c4]),rowC 4 1 (some ⟨m,0,none⟩) may.length may.length (boolV may),rowC 4 1 (some ⟨o,0,none⟩) N N (boolV ((List.replicate N false).set js bs))]:=s4
 have hl4:((List.replicate N false).set js bs).length=N:=by simp
 generalize (List.replicate N false).set js bs=out4 at s4 hsn4 hl4
 clear y3 cm co fo s3 hmk s2 s1 sm
 have y4:=(s4.box 0 rfl).1
 simp [boxAt] at y4
 have hN1:0<g.nons.length:=by omega
 obtain ⟨b2,o2,rfl,hb2,d1,d2⟩:=Go.Px.strs_at (Rep.below hr2 (s4.chg.below hB fun _ _=>id)) hN1
 have hf0:g.nons[0]=⟨#[]⟩:=by
  have h9:=hcl.first
  rw [List.head?_eq_getElem?,List.getElem?_eq_getElem hN1] at h9
  injection h9
 simp [hf0] at d1
 have hNp:0<N:=by omega
 obtain ⟨cm,_⟩:=bool_at s4 (k:=1) rfl (ms:=may) (j:=js) hjm
 obtain ⟨co,fo⟩:=bool_at s4 (k:=2) rfl (ms:=out4) (j:=0) (by omega)
 rw [hbs] at cm
 have s5:=bool_set s4 (k:=2) rfl (ms:=out4) 0 bs
 simp -dsimp [go_sem,y4,hNp,d1]
 unfold ref06_Used.b1_1
 simp -dsimp [go_sem,y4,wj,hml,hjl,cm,co,fo,hNp]
 have s6:=s5.old (Chg.refl noB _).drew
 clear s5
 generalize (w4.setCell ⟨o,0,none⟩ (.bool bs)).drew=w5 at s6 ⊢
 have hsn5:SndM g.terms.length g.prods (out4.set 0 bs):=SndM.put hsn4 fun hb=>by have:=hp0 hb;simpa using this
 have hl5:(out4.set 0 bs).length=N:=by simp [hl4]
 have s6:St noB w w5 [boxC q 27 (.slice A1 g.terms.length c1::[.slice (some ⟨b2,o2,none⟩) N c2,.slice A3 g.levels.length c3,.int .i64 g.start,.slice A4 g.prods.length c4]),rowC 4 1 (some ⟨m,0,none⟩) may.length may.length (boolV may),rowC 4 1 (some ⟨o,0,none⟩) N N (boolV (out4.set 0 bs))]:=s6
 generalize out4.set 0 bs=out5 at s6 hsn5 hl5
 clear y4 cm co fo s4
 rw [hml] at s6
 let LL:List Bool→List Ch:=fun out=>[boxC q 27 (.slice A1 g.terms.length c1::[.slice (some ⟨b2,o2,none⟩) N c2,.slice A3 g.levels.length c3,.int .i64 g.start,.slice A4 g.prods.length c4]),rowC 4 1 (some ⟨m,0,none⟩) N N (boolV may),rowC 4 1 (some ⟨o,0,none⟩) N N (boolV out)]
 let J:Value→World→Nat→Prop:=fun y w' f=>∃(ag:Bool) (out:List Bool),y = .bool ag∧out.length=N∧SndM g.terms.length g.prods out∧St noB w w' (LL out)∧f=2*cntF out+(if ag then 1 else 0)
 unfold ref06_Used.b4
 refine ref06_Used.l6_intro _ _ _ _ _ _ (fun y w'=>∃f,J y w' f) (fun y w'=>muOf (J y) w') ⟨_,true,out5,rfl,hl5,hsn5,s6,rfl⟩ ?_
 rintro y3 w6 hJ C hC
 have hJm:=muOf_at hJ
 have hfin:∀y4 w4 f,J y4 w4 f→f<muOf (J y3) w6→C y4 w4:=fun y4 w4 f h1 h2=>hC _ _ ⟨f,h1⟩ (Nat.lt_of_le_of_lt (muOf_le h1) h2)
 obtain ⟨ag,out0,rfl,hl0,hag,s7,hf⟩:=hJm
 rw [hf] at hfin
 clear hf hC hJ s6
 cases ag with
 | false =>
  simp -dsimp [go_sem]
  unfold ref06_Used.b3
  exact hR _ _ ⟨o,out0,by rw [hl0],hl0.trans hNe.symm,by rw [hl0];exact s7.pick [2] (by simp) rfl,hag⟩
 | true =>
 simp -dsimp [go_sem]
 unfold ref06_Used.b9
 refine ref06_Used.l11_intro _ _ _ _ _ _ _ _ (fun x y w'=>∃(ag:Bool) (i:Nat) (out:List Bool),x = .bool ag∧y = .int .i64 i∧i≤g.prods.length∧out.length=N∧SndM g.terms.length g.prods out∧St noB w w' (LL out)∧cntF out+(if ag then 1 else 0)≤cntF out0) (fun _ y _=>g.prods.length-iv y)
  ⟨false,0,out0,rfl,rfl,by omega,hl0,hag,s7,by simp⟩ ?_
 rintro _ _ w7 ⟨ag,i,out,rfl,rfl,hi,hl,hsn,s8,hcnt⟩ D hD
 have wi:IntKind.i64.wrap ((i:Int)+1)=(i:Int)+1:=IntWalk.i64_in _ (by have:=hcl.prods.c1;omega)
 have y8:=(s8.box 0 rfl).1
 simp [boxAt] at y8
 simp -dsimp [go_sem,y8]
 refine SPL_intro (fun p1=>?_) (fun p1=>?_) <;> simp at p1
 ·obtain ⟨b,of,vr,rfl,hb,x1,x2,x3,hr,_⟩:=prods_at hr4 p1
  have x1:=s8.chg.at x1 id
  have x2:=s8.chg.at x2 id
  have x3:=s8.chg.at x3 id
  have hx:=hcl.syms' g.prods[i] (List.getElem_mem p1)
  obtain ⟨j,hj⟩:∃j:Nat,g.prods[i].1-(g.terms.length:Int)=j:=⟨(g.prods[i].1-(g.terms.length:Int)).toNat,by omega⟩
  have hjl2:j<N:=by omega
  have wj2:IntKind.i64.wrap (g.prods[i].1-(g.terms.length:Int))=(j:Int):=by rw [hj];exact IntWalk.i64_in _ (by omega)
  obtain ⟨Ar,cr,rfl,hrl,hrm,_⟩:=slice_form hr
  have s9:=s8.alloc #[.int .i64 g.prods[i].1,.slice Ar g.prods[i].2.1.length cr,.int .i64 g.prods[i].2.2] 67
  have hgo:∀w' (ag':Bool) (out':List Bool),out'.length=N→SndM g.terms.length g.prods out'→cntF out'+(if ag' then 1 else 0)≤cntF out0→St noB w w' (LL out')→ref06_Used.b14 R C D (.bool ag') (.int .i64 i) w':=by
   intro w' ag' out' h1 h2 h3 h4
   unfold ref06_Used.b14
   simp -dsimp [go_sem,wi]
   exact hD _ _ _ ⟨ag',i+1,out',rfl,by simp,by omega,h1,h2,h4,h3⟩ (by simp [iv];omega)
  simp -dsimp [go_sem,y8,p1,x1,x2,x3]
  have hc9:Chg noB w7 (w7.alloc (.cells #[.int .i64 g.prods[i].1,.slice Ar g.prods[i].2.1.length cr,.int .i64 g.prods[i].2.2] 67)):=(Chg.refl _ _).alloc _
  generalize w7.alloc (.cells #[.int .i64 g.prods[i].1,.slice Ar g.prods[i].2.1.length cr,.int .i64 g.prods[i].2.2] 67)=w8 at s9 hc9 ⊢
  generalize w7.heap.size=q5 at s9 ⊢
  have z9:=(s9.box 3 rfl).1
  simp [boxAt] at z9
  have y9:=(s9.box 0 rfl).1
  simp [boxAt] at y9
  obtain ⟨co,_⟩:=bool_at s9 (k:=2) rfl (ms:=out) (j:=j) (by omega)
  unfold ref06_Used.b27
  simp -dsimp [go_sem,y9,z9,wj2,hjl2,co]
  cases hbo:out[j]'(by omega) with
  | false =>
   unfold ref06_Used.b28
   simp -dsimp [go_sem]
   exact hgo _ ag out hl hsn hcnt (s9.take 3)
  | true =>
   simp -dsimp [go_sem]
   unfold ref06_Used.b27_1
   simp -dsimp [go_sem,y9,z9]
   have hbl:Below B w w8:=s9.chg.below hB fun _ _=>id
   refine CALL_of (Fits_ct s9 hml (k:=1) rfl (row:=g.prods[i].2.1) (by rw [←hNe];exact rGram_below hg hbl) (Rep.below hr hbl) (by have:=s9.chg.size;omega) hT fun x hx2=>by have:=(hx.2 x hx2).2;omega) ?_
   rintro _ w9 ⟨rfl,hc10⟩
   have s10:=s9.old hc10
   unfold ref06_Used.b28
   cases hfit:g.prods[i].2.1.all (okS g.terms.length may) with
   | false =>
    simp -dsimp [go_sem]
    exact hgo _ ag out hl hsn hcnt (s10.take 3)
   | true =>
    simp -dsimp [go_sem]
    exact used_row (L0:=[rowC 4 1 (some ⟨m,0,none⟩) N N (boolV may)]) (n1:=(A1,c1)) (p:=g.prods[i]) s10 hl (by omega) hT hr hB (by omega) hsn (fun x hx2=>by have:=hx.2 x hx2;omega) (hmay.fits (fun x hx2=>by have:=(hx.2 x hx2).1;omega) hfit) hcnt fun w' ag' out' h1 h2 h3 h4=>hgo _ ag' out' h1 h2 h3 (h4.take 3)
 ·refine hfin _ _ _ ⟨ag,out,rfl,hl,hsn,s8,rfl⟩ ?_
  cases ag <;> simp at hcnt ⊢ <;> omega
end Go.Proofs.Ytmoepnfobnpdiaa

/-
  Useful; useful.
-/
namespace Go.Proofs.Ytmoepnfobnpdiaa
open Go.Px Go.Px.Scan Go.Px.Cn Go.RowKit
attribute [-go_sem] Builtin.append_ ref06_Useful.b3 ref06_Useful.b5 ref06_Useful.b4_1 ref06_Useful.b4 top_useful.b3 top_useful.b7_1 top_useful.b4 top_useful.b1_1
theorem Useful_ct {w:World} {B:Nat} {vg:Value} {g:Gr} (hg:rGram.atN w B vg g) (hB:B≤w.heap.size) (hcl:ClosedP g) :
  Ct Try.prog ref06_Useful.id #[vg] w fun v w'=>∃m ms,v = .tuple #[.slice (some ⟨m,0,none⟩) ms.length ms.length,.int .i64 0]∧ms.length=g.nons.length∧St noB w w' [rowC 4 1 (some ⟨m,0,none⟩) ms.length ms.length (boolV ms)]∧SndM g.terms.length g.prods ms:=by
 refine ref06_Useful.ct fun R hR=>?_
 obtain ⟨A1,c1,A2,c2,A3,c3,A4,c4,rfl,⟨m1,m2,m3,m4⟩,hst,hc0,hgr⟩:=box_all hg hB
 have s1:=(St.refl noB w).alloc #[.slice A1 g.terms.length c1,.slice A2 g.nons.length c2,.slice A3 g.levels.length c3,.int .i64 g.start,.slice A4 g.prods.length c4] 27
 unfold ref06_Useful.run
 simp -dsimp [go_sem]
 generalize w.alloc (.cells #[.slice A1 g.terms.length c1,.slice A2 g.nons.length c2,.slice A3 g.levels.length c3,.int .i64 g.start,.slice A4 g.prods.length c4] 27)=w1 at s1 hc0 hgr ⊢
 generalize w.heap.size=q at s1 hgr ⊢
 have y1:=(hgr _ (Chg.refl _ _)).k
 have hup:∀w',Chg noB w1 w'→rGram.atN w' B (.agg #[.slice A1 g.terms.length c1,.slice A2 g.nons.length c2,.slice A3 g.levels.length c3,.int .i64 g.start,.slice A4 g.prods.length c4]) g∧B≤w'.heap.size:=fun w' hc =>
  ⟨rGram_below hg ((hc0.trans hc).below hB fun _ _=>id),(hgr _ hc).sz⟩
 unfold ref06_Useful.b4
 simp -dsimp [go_sem,y1]
 refine CALL_of (refValid_ct (hup w1 (Chg.refl _ _)).1 (hup w1 (Chg.refl _ _)).2) ?_
 rintro _ w2 ⟨rfl,hc2⟩
 have fin:∀w',Chg noB w1 w'→ref06_Useful.b3 R (.pointer (some ⟨q,0,none⟩)) w':=by
  intro w3 hc3
  have y3:=(hgr _ hc3).k
  unfold ref06_Useful.b3
  simp -dsimp [go_sem,y3]
  refine CALL_of (Used_ct (hup w3 hc3).1 (hup w3 hc3).2 hcl) ?_
  rintro _ w4 ⟨m,ms,rfl,hl,s4,hs⟩
  have s5:=(s1.old hc3).seq s4
  exact hR _ _ ⟨m,ms,rfl,hl,s5.pick [1] (by simp) rfl,hs⟩
 have y2:=(hgr _ hc2).k
 cases hv:validB g with
 | true =>
  simp -dsimp [go_sem]
  unfold ref06_Useful.b5
  simp -dsimp [go_sem]
  exact fin w2 hc2
 | false =>
  simp -dsimp [go_sem]
  unfold ref06_Useful.b4_1
  simp -dsimp [go_sem,y2]
  refine CALL_of (refClosed_ct (hup w2 hc2).1 (hup w2 hc2).2) ?_
  rintro _ w3 ⟨rfl,hc3⟩
  rw [closedB_iff.2 hcl]
  unfold ref06_Useful.b5
  simp -dsimp [go_sem]
  exact fin w3 (hc2.trans hc3)
theorem useful_ct {w:World} {B:Nat} {vg:Value} {g:Gr} (hg:rGram.atN w B vg g) (hB:B≤w.heap.size) (hcl:ClosedP g) :
  Ct Try.prog top_useful.id #[vg] w fun v w'=>∃b,v = .bool b∧Chg noB w w'∧(b=true→∀p∈g.prods,∀s∈p.2.1,Pd g.terms.length g.prods s):=by
 refine top_useful.ct fun R hR=>?_
 obtain ⟨A1,c1,A2,c2,A3,c3,A4,c4,rfl,⟨m1,m2,m3,m4⟩,hst,hc0,hgr⟩:=box_all hg hB
 unfold top_useful.run
 have y1:=(hgr _ (Chg.refl _ _)).k
 simp -dsimp [go_sem,y1]
 have hg1:=rGram_below hg (hc0.below hB fun _ _=>id)
 have hB1:=(hgr _ (Chg.refl _ _)).sz
 generalize w.alloc (.cells #[.slice A1 g.terms.length c1,.slice A2 g.nons.length c2,.slice A3 g.levels.length c3,.int .i64 g.start,.slice A4 g.prods.length c4] 27)=w1 at hc0 hgr hg1 hB1 y1 ⊢
 refine CALL_of (Useful_ct hg1 hB1 hcl) ?_
 rintro _ w2 ⟨m,ms,rfl,hl,s2,hs⟩
 have hN:=hcl.syms.n1
 unfold top_useful.b1_1
 simp -dsimp [go_sem]
 unfold top_useful.b4
 refine top_useful.l6_intro _ _ _ _ _ (fun y w'=>∃i:Nat,y = .int .i64 i∧i≤ms.length∧w'=w2∧∀j,j<i→ms.getD j false=true) (fun y _=>ms.length-iv y) ⟨0,rfl,by omega,rfl,fun j h=>by omega⟩ ?_
 rintro _ _ ⟨i,rfl,hi,rfl,hall⟩ C hC
 simp -dsimp [go_sem]
 refine SPL_intro (fun p1=>?_) (fun p1=>?_) <;> simp at p1
 ·have wi:IntKind.i64.wrap ((i:Int)+1)=(i:Int)+1:=IntWalk.i64_in _ (by omega)
  obtain ⟨co,_⟩:=bool_at s2 (k:=0) rfl (ms:=ms) (j:=i) p1
  unfold top_useful.b7_1
  simp -dsimp [go_sem,p1,co]
  cases hb:ms[i] with
  | false =>
   simp -dsimp [go_sem]
   exact hR _ _ ⟨false,rfl,hc0.trans s2.chg,fun h=>by cases h⟩
  | true =>
   simp -dsimp [go_sem,wi]
   refine hC _ _ ⟨i+1,by simp,by omega,rfl,fun j hj=>?_⟩ (by simp [iv];omega)
   by_cases e:j=i
   ·subst e;rw [List.getD_eq_getElem?_getD,List.getElem?_eq_getElem p1,hb];rfl
   ·exact hall j (by omega)
 ·unfold top_useful.b3
  simp -dsimp [go_sem]
  refine hR _ _ ⟨true,rfl,hc0.trans s2.chg,fun _ p hp s hsp=>?_⟩
  have hx:=(hcl.syms' p hp).2 s hsp
  by_cases e:s<g.terms.length
  ·exact .term (by omega) e
  ·have:=hs (s-g.terms.length).toNat (hall _ (by omega))
   rw [show (g.terms.length:Int)+((s-g.terms.length).toNat:Int)=s by omega] at this
   exact this
end Go.Proofs.Ytmoepnfobnpdiaa

/-
  The theorem of the states: its cores.
-/
namespace Go.Px.Cn
open Go.Px Go.Px.Scan Go.Proofs.Ytmoepnfobnpdiaa
theorem StR.keep {w w':World} {A:Option Addr} {ks:List (List It)} (h:StR w A ks) (hc:Chg noB w w'):StR w' A ks:=by
 intro i l hl
 obtain ⟨g,a,c,e,h1,h2⟩:=h i l hl
 exact ⟨g,a,c,e,hc.at h1 id,Rep.up (Rep.below h2 (hc.below (Nat.le_refl _) fun _ _=>id)) hc.size⟩
theorem CoR.keep {w w':World} {gA:Nat} {ss:List (List It1)} (h:CoR w gA ss) (hc:Chg noB w w'):CoR w' gA ss:=by
 intro i l hl
 obtain ⟨a,c,h1,h2⟩:=h i l hl
 exact ⟨a,c,hc.at h1 id,Rep.up (Rep.below h2 (hc.below (Nat.le_refl _) fun _ _=>id)) hc.size⟩
/-- There are two kernels at least. -/
theorem ks_two {g:Gr} (hcl:ClosedP g) {ks:List (List It)} (h:Lr0 g.prods ks):1<ks.length:=by
 have h0:=closed_left0 hcl
 have ha:=hcl.added
 have hr:rgt g.prods 0=[g.start]:=by
  unfold rgt
  cases hq:g.prods with
  | nil=>rw [hq] at ha;cases ha
  | cons a b=>rw [hq] at ha;injection ha with ha;subst ha;rfl
 obtain ⟨l,hl,he⟩:=h.go _ h.start g.start ⟨(0,1),(0,0),.base (by simp),by unfold aft;rw [hr];rfl,rfl⟩
 have h1:((0,1):It)∈l:=(he (0,1)).2 ⟨(0,0),.base (by simp),by unfold aft;rw [hr];rfl,rfl⟩
 have hne:l≠[((0,0):It)]:=fun e=>by rw [e] at h1;simp at h1
 obtain ⟨i,hi,e1⟩:=List.getElem_of_mem hl
 obtain ⟨j,hj,e2⟩:=List.getElem_of_mem h.start
 have:i≠j:=fun e=>by subst e;exact hne (e1.symm.trans e2)
 omega
abbrev DK:=Option Addr×Nat×List It
def rowD (x:DK):Ch:=rowC 57 2 x.1 x.2.2.length x.2.1 (x.2.2.flatMap itV)
def valD (x:DK):Value := .slice x.1 x.2.2.length x.2.1
theorem it_at1 {G:Nat→Prop} {W w:World} {L:List Ch} {A:Option Addr} {c:Nat} {l:List It} (s:St G W w L) (k:Nat) (hk:L[k]?=some (rowC 57 2 A l.length c (l.flatMap itV))):(rSlice rIt).at1 w w.heap.size (.slice A l.length c) l:=by
 obtain ⟨F,ho,hF⟩:=s.get hk
 obtain ⟨_,h2,h3⟩:=s.rowSize k hk
 refine ⟨A,c,rfl,h2,h3,trivial,fun hp=>?_⟩
 obtain ⟨g,eg,_⟩:=row_elem ho (fun _ _=>rfl) (by decide) (i:=0) (x:=l[0]) (List.getElem?_eq_getElem hp)
 subst eg
 refine ⟨g,0,rfl,?_,fun i x hi=>⟨itV x,rfl,fun j u hj=>?_⟩⟩
 ·have:=(hF g (ho.2 g rfl)).1
  exact this
 ·obtain ⟨g',eg',hc,_⟩:=row_elem ho (fun _ _=>rfl) (by decide) hi
  injection eg' with eg';injection eg' with eg';subst eg'
  have:=hc j u hj
  rw [Nat.zero_add];exact this
/-- The cores' pieces. -/
def corM (Y0 Y1:Ch) (aC:Option Addr) (cC:Nat) (D:List DK):List Ch:=[Y0,Y1,rowC 39 1 aC D.length cC (D.map valD),Ch.all (D.map rowD)]
theorem cor_at {W w:World} {Y0 Y1:Ch} {aC:Option Addr} {cC:Nat} {D:List DK} {M:List Ch} (s:St noB W w (corM Y0 Y1 aC cC D++M)) {i:Nat} {x:DK} (hx:D[i]?=some x) :
  (∃gA,aC=some ⟨gA,0,none⟩∧w.cell? ⟨gA,i,none⟩=some (valD x))∧(rSlice rIt).at1 w w.heap.size (.slice x.1 x.2.2.length x.2.1) x.2.2:=by
 have hi:=(List.getElem?_eq_some_iff.1 hx).1
 constructor
 ·obtain ⟨gA,eA,cA',_⟩:=s.rowAt 2 rfl (j:=i) (by simpa using hi)
  refine ⟨gA,eA,?_⟩
  rw [cA',List.getElem_map,(List.getElem?_eq_some_iff.1 hx).2]
 ·obtain ⟨F,sF,_⟩:=s.inAll' 3 rfl
  exact it_at1 sF i (by rw [List.getElem?_map,hx];rfl)
end Go.Px.Cn
namespace Go.Proofs.Ytmoepnfobnpdiaa
open Go.Px Go.Px.Scan Go.Px.Cn Go.RowKit
attribute [-go_sem] Builtin.append_ top_TopCores.b5 top_TopCores.b11 top_TopCores.b16 top_TopCores.b15 top_TopCores.b21 top_TopCores.b23 top_TopCores.b17 top_TopCores.b13_1 top_TopCores.b13 top_TopCores.b6 top_TopCores.b25 top_TopCores.b24_1 top_TopCores.b24 top_TopCores.b31 top_TopCores.b35_1 top_TopCores.b35 top_TopCores.b40 top_TopCores.b42 top_TopCores.b36 top_TopCores.b33 top_TopCores.b26
theorem scan_core {W w:World} {Y0 Y1:Ch} {aC A:Option Addr} {cC c:Nat} {D:List DK} {r:List It} {x10:Value} {R:EP} {C28:Value→VP}
  (s:St noB W w (corM Y0 Y1 aC cC D++[rowC 57 2 A r.length c (r.flatMap itV)])) (hD:D.length≤1000) (hDl:∀x∈D,x.2.2.length≤20000)
  (hgo:∀w' th,(th=true↔∃x∈D,x.2.2=r)→St noB W w' (corM Y0 Y1 aC cC D++[rowC 57 2 A r.length c (r.flatMap itV)])→top_TopCores.b35 R C28 (.slice aC D.length cC) x10 (.slice A r.length c) (.bool th) w') :
  top_TopCores.b36 R C28 (.slice aC D.length cC) x10 (.slice A r.length c) (.bool false) w:=by
 unfold top_TopCores.b36
 refine top_TopCores.l38_intro _ _ _ _ _ _ _ _ (fun x y w'=>∃(th:Bool) (k:Nat),x = .bool th∧y = .int .i64 k∧k≤D.length∧(th=true→∃x∈D,x.2.2=r)∧(th=false→∀j x,j<k→D[j]?=some x→x.2.2≠r)∧St noB W w' (corM Y0 Y1 aC cC D++[rowC 57 2 A r.length c (r.flatMap itV)])) (fun _ y _=>D.length-iv y)
  ⟨false,0,rfl,rfl,by omega,fun h=>(by cases h),fun h j x h=>by omega,s⟩ ?_
 rintro _ _ w1 ⟨th,k,rfl,rfl,hk,h1,h2,s1⟩ C hC
 have hfin:(th=true∨k=D.length)→top_TopCores.b42 R C28 C (.slice aC D.length cC) x10 (.slice A r.length c) (.bool th) (.int .i64 k) (.bool false) w1:=by
  intro h
  unfold top_TopCores.b42
  simp -dsimp [go_sem]
  refine hgo w1 th ⟨h1,fun h3=>?_⟩ s1
  cases th with
  | true=>rfl
  | false =>
   exfalso
   have h5:=h2 rfl
   rcases h with h | h
   ·cases h
   ·obtain ⟨x,hx,h3⟩:=h3
    obtain ⟨j,hj⟩:=List.mem_iff_getElem?.1 hx
    exact h5 j x (by rw [h];exact (List.getElem?_eq_some_iff.1 hj).1) hj h3
 simp -dsimp [go_sem]
 refine SPL_intro (fun p1=>?_) (fun p1=>?_) <;> simp at p1
 ·cases th with
  | true =>
   simp -dsimp [go_sem]
   exact hfin (Or.inl rfl)
  | false =>
   have wk:IntKind.i64.wrap ((k:Int)+1)=(k:Int)+1:=IntWalk.i64_in _ (by omega)
   have hxk:D[k]?=some D[k]:=List.getElem?_eq_getElem p1
   obtain ⟨⟨gA,eA,hcell⟩,hat⟩:=cor_at s1 hxk
   unfold valD at hcell
   subst eA
   have hr:=it_at1 s1 4 rfl
   simp -dsimp [go_sem]
   unfold top_TopCores.b42
   simp -dsimp [go_sem]
   unfold top_TopCores.b40
   simp -dsimp [go_sem,p1,hcell]
   refine CALL_of (SameItems_ct hat hr (Nat.le_refl _) (Nat.le_refl _) (by have:=hDl D[k] (List.getElem_mem p1);omega)) ?_
   rintro _ w2 ⟨⟨b,rfl,hb⟩,hc2⟩
   have s2:=s1.old hc2
   simp -dsimp [go_sem,wk]
   refine hC _ _ _ ⟨b,k+1,rfl,by simp,by omega,fun h=>⟨D[k],List.getElem_mem p1,hb.1 h⟩,fun h j x hj hx e=>?_,s2⟩ (by simp [iv];omega)
   by_cases ej:j=k
   ·subst ej
    rw [hxk] at hx;injection hx with hx;subst hx
    rw [hb.2 e] at h;cases h
   ·exact h2 rfl j x (by omega) hx e
 ·exact hfin (Or.inr (by omega))
/-- .. the same, with the closures. -/
theorem scan_clos {W w:World} {Y0 Y1:Ch} {aC A:Option Addr} {cC c:Nat} {D:List DK} {r:List It} {x14 x16:Value} {R:EP} {C8:VP} {M:List Ch}
  (s:St noB W w (corM Y0 Y1 aC cC D++M)) (hr0:∀w',Chg noB w w'→(rSlice rIt).at1 w' w'.heap.size (.slice A r.length c) r) (hD:D.length≤1000) (hDl:∀x∈D,x.2.2.length≤20000) (hin:∃x∈D,x.2.2=r)
  (hgo:∀w',Chg noB w w'→St noB W w' (corM Y0 Y1 aC cC D++M)→top_TopCores.b15 R C8 x14 x16 (.bool true) w') :
  top_TopCores.b17 R C8 (.slice aC D.length cC) x14 (.slice A r.length c) x16 (.bool false) w:=by
 unfold top_TopCores.b17
 refine top_TopCores.l19_intro _ _ _ _ _ _ _ _ _ (fun x y w'=>∃(th:Bool) (k:Nat),x = .bool th∧y = .int .i64 k∧k≤D.length∧(th=false→∀j x,j<k→D[j]?=some x→x.2.2≠r)∧Chg noB w w') (fun _ y _=>D.length-iv y)
  ⟨false,0,rfl,rfl,by omega,fun h j x h=>by omega,Chg.refl _ _⟩ ?_
 rintro _ _ w1 ⟨th,k,rfl,rfl,hk,h2,hc1⟩ C hC
 have s1:=s.old hc1
 have hfin:(th=true∨k=D.length)→top_TopCores.b23 R C8 C (.slice aC D.length cC) x14 (.slice A r.length c) x16 (.bool th) (.int .i64 k) (.bool false) w1:=by
  intro h
  unfold top_TopCores.b23
  simp -dsimp [go_sem]
  cases th with
  | true=>exact hgo w1 hc1 s1
  | false =>
   exfalso
   have h5:=h2 rfl
   rcases h with h | h
   ·cases h
   ·obtain ⟨x,hx,h3⟩:=hin
    obtain ⟨j,hj⟩:=List.mem_iff_getElem?.1 hx
    exact h5 j x (by rw [h];exact (List.getElem?_eq_some_iff.1 hj).1) hj h3
 simp -dsimp [go_sem]
 refine SPL_intro (fun p1=>?_) (fun p1=>?_) <;> simp at p1
 ·cases th with
  | true =>
   simp -dsimp [go_sem]
   exact hfin (Or.inl rfl)
  | false =>
   have wk:IntKind.i64.wrap ((k:Int)+1)=(k:Int)+1:=IntWalk.i64_in _ (by omega)
   have hxk:D[k]?=some D[k]:=List.getElem?_eq_getElem p1
   obtain ⟨⟨gA,eA,hcell⟩,hat⟩:=cor_at s1 hxk
   unfold valD at hcell
   subst eA
   have hr:=hr0 w1 hc1
   simp -dsimp [go_sem]
   unfold top_TopCores.b23
   simp -dsimp [go_sem]
   unfold top_TopCores.b21
   simp -dsimp [go_sem,p1,hcell]
   refine CALL_of (SameItems_ct hat hr (Nat.le_refl _) (Nat.le_refl _) (by have:=hDl D[k] (List.getElem_mem p1);omega)) ?_
   rintro _ w2 ⟨⟨b,rfl,hb⟩,hc2⟩
   simp -dsimp [go_sem,wk]
   refine hC _ _ _ ⟨b,k+1,rfl,by simp,by omega,fun h j x hj hx e=>?_,hc1.trans hc2⟩ (by simp [iv];omega)
   by_cases ej:j=k
   ·subst ej
    rw [hxk] at hx;injection hx with hx;subst hx
    rw [hb.2 e] at h;cases h
   ·exact h2 rfl j x (by omega) hx e
 ·exact hfin (Or.inr (by omega))
end Go.Proofs.Ytmoepnfobnpdiaa

/-
  The theorem of the states: unlike cores are gathered.
-/
namespace Go.Px.Cn
open Go.Px Go.Px.Scan
theorem coreF_len (a:List It1):(coreF a).length≤a.length:=by
 have key:∀(a:List It1) (o:List It),(a.foldl (fun out z=>if out.getLast?=some z.1 then out else out++[z.1]) o).length≤o.length+a.length:=by
  intro a
  induction a with
  | nil=>intro o;simp
  | cons z a ih =>
   intro o
   rw [List.foldl_cons]
   have:=ih (if o.getLast?=some z.1 then o else o++[z.1])
   have h2:(if o.getLast?=some z.1 then o else o++[z.1]).length≤o.length+1:=by split <;> simp
   simp only [List.length_cons]
   omega
 have:=key a []
 simpa [coreF] using this
def csOf (D:List DK):List (List It):=D.map fun x=>x.2.2
end Go.Px.Cn
namespace Go.Proofs.Ytmoepnfobnpdiaa
open Go.Px Go.Px.Scan Go.Px.Cn Go.RowKit
attribute [-go_sem] Builtin.append_ top_TopCores.b5 top_TopCores.b11 top_TopCores.b16 top_TopCores.b15 top_TopCores.b21 top_TopCores.b23 top_TopCores.b17 top_TopCores.b13_1 top_TopCores.b13 top_TopCores.b6 top_TopCores.b25 top_TopCores.b24_1 top_TopCores.b24 top_TopCores.b31 top_TopCores.b35_1 top_TopCores.b35 top_TopCores.b40 top_TopCores.b42 top_TopCores.b36 top_TopCores.b33 top_TopCores.b26
theorem uCores:Try.prog.underlying 38=some (.slice 39):=Try.underlying38
theorem iItems:(Try.prog.info? 39).map (fun i=>(i.zero,i.size,i.bytes))=some (some (.slice none 0 0),1,24):=by kernel_rfl
structure CsOk (ss:List (List It1)) (i:Nat) (D:List DK):Prop where
 len:D.length≤i
 row:∀x∈D,x.2.2.length≤20000
 nd:(csOf D).Nodup
 snd:∀c∈csOf D,∃a∈ss,c=coreF a
 cmp:∀a∈ss.take i,coreF a∈csOf D
theorem cores_loop {W w:World} {Y0 Y1:Ch} {gA c:Nat} {ss:List (List It1)} {x1 x3:Value} {R:EP} (hco:CoR W gA ss) (hss:∀a∈ss,a.Pairwise fLt∧a.length≤20000) (hlen:ss.length≤150)
  (s:St noB W w (corM Y0 Y1 none 0 []))
  (hgo:∀w' aC cC D,CsOk ss ss.length D→St noB W w' (corM Y0 Y1 aC cC D)→top_TopCores.b24 R x1 x3 (.slice aC D.length cC) w') :
  top_TopCores.b26 R x1 x3 (.slice (some ⟨gA,0,none⟩) ss.length c) (.slice none 0 0) w:=by
 unfold top_TopCores.b26
 refine top_TopCores.l28_intro _ _ _ _ _ _ _ (fun x y w'=>∃(i:Nat) (aC:Option Addr) (cC:Nat) (D:List DK),x = .slice aC D.length cC∧y = .int .i64 i∧i≤ss.length∧CsOk ss i D∧St noB W w' (corM Y0 Y1 aC cC D)) (fun _ y _=>ss.length-iv y)
  ⟨0,none,0,[],rfl,rfl,by omega,⟨by simp,by simp,List.Pairwise.nil,by simp [csOf],by simp⟩,s⟩ ?_
 rintro _ _ w1 ⟨i,aC,cC,D,rfl,rfl,hi,hD,s1⟩ C hC
 have hDl:=hD.len
 have wi:IntKind.i64.wrap ((i:Int)+1)=(i:Int)+1:=IntWalk.i64_in _ (by omega)
 simp -dsimp [go_sem]
 refine SPL_intro (fun p1=>?_) (fun p1=>?_) <;> simp at p1
 ·have ha:ss[i]?=some ss[i]:=List.getElem?_eq_getElem p1
  have ham:=List.getElem_mem p1
  have et:ss.take (i+1)=ss.take i++[ss[i]]:=List.take_succ_eq_append_getElem p1
  obtain ⟨a,hae⟩:∃a,ss[i]=a:=⟨_,rfl⟩
  rw [hae] at ha ham et
  obtain ⟨Ai,ci,hcell,hat⟩:=CoR.keep hco s1.chg i a ha
  obtain ⟨_,hal⟩:=hss a ham
  unfold top_TopCores.b33
  simp -dsimp [go_sem,p1,hcell]
  refine CALL_of (core_ct hat (Nat.le_refl _) (by omega)) ?_
  rintro _ w2 ⟨A2,c2,rfl,s2⟩
  have s3:=s1.seq s2
  have hcl:=coreF_len a
  refine scan_core s3 (by omega) hD.row fun w3 th hth s4=>?_
  have hth':th=true↔coreF a∈csOf D:=hth.trans ⟨fun ⟨x,hx,e⟩=>List.mem_map.2 ⟨x,hx,e⟩,fun h=>by obtain ⟨x,hx,e⟩:=List.mem_map.1 h;exact ⟨x,hx,e⟩⟩
  have hup:∀w' aC' cC' D',CsOk ss (i+1) D'→St noB W w' (corM Y0 Y1 aC' cC' D')→top_TopCores.b31 R C (.slice aC' D'.length cC') (.int .i64 i) w':=by
   intro w' aC' cC' D' h1 h2
   unfold top_TopCores.b31
   simp -dsimp [go_sem,wi]
   exact hC _ _ _ ⟨i+1,aC',cC',D',rfl,by simp,by omega,h1,h2⟩ (by simp [iv];omega)
  unfold top_TopCores.b35
  cases th with
  | true =>
   simp -dsimp [go_sem]
   refine hup w3 aC cC D ⟨by omega,hD.row,hD.nd,hD.snd,fun b hb=>?_⟩ (s4.take 4)
   rw [et] at hb
   rcases List.mem_append.1 hb with hb | hb
   ·exact hD.cmp b hb
   ·rw [List.mem_singleton] at hb;subst hb;exact hth'.1 rfl
  | false =>
   have hno:coreF a∉csOf D:=fun h=>by have:=hth'.2 h;cases this
   simp -dsimp [go_sem]
   unfold top_TopCores.b35_1
   simp -dsimp [go_sem]
   refine s4.append1 2 rfl uCores iItems rfl (by decide) (news:=[.slice A2 (coreF a).length c2]) rfl (by simp [Value.oneCell']) (by unfold maxLen;omega) (by unfold maxBytes;omega) ?_
   intro gA2 cap w4 s5
   have s6:=(s5.into 4 3 rfl rfl (by decide)).take 4
   have eK:(D++[((A2,c2,coreF a):DK)]).map valD=D.map valD++[.slice A2 (coreF a).length c2]:=by rw [List.map_append];rfl
   have eR:(D++[((A2,c2,coreF a):DK)]).map rowD=D.map rowD++[rowC 57 2 A2 (coreF a).length c2 ((coreF a).flatMap itV)]:=by rw [List.map_append];rfl
   have eL:(D++[((A2,c2,coreF a):DK)]).length=D.length+1:=by simp
   have eC:csOf (D++[((A2,c2,coreF a):DK)])=csOf D++[coreF a]:=by unfold csOf;rw [List.map_append];rfl
   rw [←eL]
   refine hup w4 (some ⟨gA2,0,none⟩) cap (D++[(A2,c2,coreF a)]) ⟨by rw [eL];omega,fun x hx=>?_,?_,fun b hb=>?_,fun b hb=>?_⟩ ?_
   ·rcases List.mem_append.1 hx with hx | hx
    ·exact hD.row x hx
    ·rw [List.mem_singleton] at hx;subst hx
     show (coreF a).length≤20000;omega
   ·rw [eC,List.nodup_append]
    refine ⟨hD.nd,by simp,fun x hx y hy e=>?_⟩
    rw [List.mem_singleton] at hy
    subst hy e
    exact hno hx
   ·rw [eC] at hb
    rcases List.mem_append.1 hb with hb | hb
    ·exact hD.snd b hb
    ·rw [List.mem_singleton] at hb;exact ⟨a,ham,hb⟩
   ·rw [eC]
    rw [et] at hb
    rcases List.mem_append.1 hb with hb | hb
    ·exact List.mem_append_left _ (hD.cmp b hb)
    ·rw [List.mem_singleton] at hb;subst hb;simp
   ·unfold corM
    rw [eK,eR,eL]
    exact s6
 ·have hie:i=ss.length:=by omega
  subst hie
  exact hgo w1 aC cC D hD s1
end Go.Proofs.Ytmoepnfobnpdiaa

/-
  The theorem of the states, walked.
-/
namespace Go.Proofs.Ytmoepnfobnpdiaa
open Go.Px Go.Px.Scan Go.Px.Cn Go.RowKit
attribute [-go_sem] Builtin.append_ top_TopCores.b5 top_TopCores.b11 top_TopCores.b16 top_TopCores.b15 top_TopCores.b21 top_TopCores.b23 top_TopCores.b17 top_TopCores.b13_1 top_TopCores.b13 top_TopCores.b6 top_TopCores.b25 top_TopCores.b24_1 top_TopCores.b24 top_TopCores.b31 top_TopCores.b35_1 top_TopCores.b35 top_TopCores.b40 top_TopCores.b42 top_TopCores.b36 top_TopCores.b33 top_TopCores.b26 top_TopCores.b1_1 top_TopCores.b1_2 top_TopCores.b1_3 top_TopCores.b1_4 top_TopCores.b1_5 top_TopCores.b1_6 top_TopCores.b1_7 top_TopCores.b1_8 top_TopCores.b1_9 top_TopCores.b1_10
section
variable {A1 A2 A3 A4:Option Addr} {c1 c2 c3 c4:Nat} {g:Gr} {B q ab:Nat} {A:Option Addr} {cA:Nat} {asked:Int} {ks:List (List It)}
def gC (A1 A2 A3 A4:Option Addr) (c1 c2 c3 c4:Nat) (g:Gr) (q:Nat):Ch:=boxC q 27 [.slice A1 g.terms.length c1,.slice A2 g.nons.length c2,.slice A3 g.levels.length c3,.int .i64 g.start,.slice A4 g.prods.length c4]
def auC (ab:Nat) (A:Option Addr) (cA:Nat) (asked:Int) (n:Nat):Ch:=boxC ab 30 [.slice A n cA,.int .i64 asked,.int .i64 n]
theorem clos_loop {w w1:World} {R:EP} {aC:Option Addr} {cC:Nat} {D:List DK}
  (hg:rGram.atN w B (.agg #[.slice A1 g.terms.length c1,.slice A2 g.nons.length c2,.slice A3 g.levels.length c3,.int .i64 g.start,.slice A4 g.prods.length c4]) g) (hB:B≤w.heap.size) (hcl:ClosedP g)
  (s:St noB w w1 (corM (gC A1 A2 A3 A4 c1 c2 c3 c4 g q) (auC ab A cA asked ks.length) aC cC D)) (hst:StR w1 A ks) (hkl:ks.length≤256) (hks:∀l∈ks,Val g.prods l∧l.length≤29100∧l≠[]∧l.Nodup∧(∀y∈l,y.2=0→y=(0,0)))
  (hD:D.length≤1000) (hDl:∀x∈D,x.2.2.length≤20000) (hDs:∀c∈csOf D,c.Pairwise itLt) (hfin:∀l∈ks,∃c∈csOf D,∀x,x∈c↔Cl0 g.prods (·∈l) x)
  (hR:∀w',Chg noB w w'→R (.returned (.bool true)) w') :
  top_TopCores.b6 R (.pointer (some ⟨q,0,none⟩)) (.pointer (some ⟨ab,0,none⟩)) (.slice aC D.length cC) w1:=by
 have hPl:=hcl.prods.c1
 unfold top_TopCores.b6
 refine top_TopCores.l8_intro _ _ _ _ _ _ (fun y w'=>∃i:Nat,y = .int .i64 i∧i≤ks.length∧Chg noB w1 w') (fun y _=>ks.length-iv y) ⟨0,rfl,by omega,Chg.refl _ _⟩ ?_
 rintro _ w2 ⟨i,rfl,hi,hc2⟩ C hC
 have s2:=s.old hc2
 have wi:IntKind.i64.wrap ((i:Int)+1)=(i:Int)+1:=IntWalk.i64_in _ (by omega)
 have y0:=(s2.box 0 rfl).1
 have y1:=(s2.box 1 rfl).1
 simp [boxAt] at y0 y1
 simp -dsimp [go_sem,y1]
 refine SPL_intro (fun p1=>?_) (fun p1=>?_) <;> simp at p1
 ·have hl:ks[i]?=some ks[i]:=List.getElem?_eq_getElem p1
  have hlm:=List.getElem_mem p1
  obtain ⟨l,hle⟩:∃l,ks[i]=l:=⟨_,rfl⟩
  rw [hle] at hl hlm
  obtain ⟨gs,a,c,eA,hcell,hat⟩:=StR.keep hst hc2 i l hl
  obtain ⟨hv,hll,hne,hnd,h0⟩:=hks l hlm
  have s3:=s2.old (Chg.refl noB w2).drew
  have hat3:=Rep.below hat ((Chg.refl noB w2).drew.below (Nat.le_refl _) fun _ _=>id)
  rw [eA] at y1
  unfold top_TopCores.b13
  simp -dsimp [go_sem,y0,y1,p1,hcell]
  refine CALL_of (Closure_ct (rGram_below hg (s3.chg.below hB fun _ _=>id)) (by have:=s3.chg.size;omega) hcl hat3 (Nat.le_refl _) (by omega) hne hv hnd h0) ?_
  rintro _ w3 ⟨ra,r,rfl,hrs,hrm,hrl,s4⟩
  have s5:=s3.seq s4
  obtain ⟨cc,hcm,hce⟩:=hfin l hlm
  have hcr:cc=r:=it_ext (hDs cc hcm) hrs fun x=>(hce x).trans (hrm x).symm
  subst hcr
  have hup:∀w',Chg noB w3 w'→(rSlice rIt).at1 w' w'.heap.size (.slice (some ra) cc.length cc.length) cc:=fun w' hc=>q_at1 (s4.old hc) 0 rfl
  unfold top_TopCores.b13_1
  simp -dsimp [go_sem]
  refine scan_clos (M:=[]) (by rw [List.append_nil];exact s5.left) hup hD hDl (by obtain ⟨x,hx,e⟩:=List.mem_map.1 hcm;exact ⟨x,hx,e⟩) fun w4 hc4 s6=>?_
  unfold top_TopCores.b15
  simp -dsimp [go_sem]
  unfold top_TopCores.b16
  simp -dsimp [go_sem]
  unfold top_TopCores.b11
  simp -dsimp [go_sem,wi]
  exact hC _ _ ⟨i+1,by simp,by omega,(hc2.drew.trans s4.chg).trans hc4⟩ (by simp [iv];omega)
 ·unfold top_TopCores.b5
  exact hR _ s2.chg
end
theorem TopCores_ct {w:World} {B:Nat} {vg:Value} {g:Gr} (hg:rGram.atN w B vg g) (hB:B≤w.heap.size) :
  Ct Try.prog top_TopCores.id #[vg] w fun v w'=>v = .bool true∧Chg noB w w':=by
 refine top_TopCores.ct fun R hR=>?_
 obtain ⟨A1,c1,A2,c2,A3,c3,A4,c4,rfl,⟨m1,m2,m3,m4⟩,hst,hc0,hgr⟩:=box_all hg hB
 have s1:=(St.refl noB w).alloc #[.slice A1 g.terms.length c1,.slice A2 g.nons.length c2,.slice A3 g.levels.length c3,.int .i64 g.start,.slice A4 g.prods.length c4] 27
 unfold top_TopCores.run
 have y1:=(hgr _ (Chg.refl _ _)).k
 simp -dsimp [go_sem,y1]
 have hup:∀w',Chg noB w w'→rGram.atN w' B (.agg #[.slice A1 g.terms.length c1,.slice A2 g.nons.length c2,.slice A3 g.levels.length c3,.int .i64 g.start,.slice A4 g.prods.length c4]) g∧B≤w'.heap.size:=fun w' hc =>
  ⟨rGram_below hg (hc.below hB fun _ _=>id),by have:=hc.size;omega⟩
 clear y1 hgr
 generalize w.alloc (.cells #[.slice A1 g.terms.length c1,.slice A2 g.nons.length c2,.slice A3 g.levels.length c3,.int .i64 g.start,.slice A4 g.prods.length c4] 27)=w1 at s1 hc0 ⊢
 generalize w.heap.size=q at s1 ⊢
 refine CALL_of (Build_ct (hup w1 hc0).1 (hup w1 hc0).2) ?_
 rintro v w2 ⟨hc2,hres⟩
 have s2:=s1.old hc2
 have mk:∀(A:Option Addr) (n cA e:Nat) (asked:Int),(∀w' ab,St noB w w' [gC A1 A2 A3 A4 c1 c2 c3 c4 g q,auC ab A cA asked n]→Chg noB w2 w'→(if e≠0 then top_TopCores.b1_2 R (.int .i64 e) (.pointer (some ⟨ab,0,none⟩)) (.bool (closedB g)) w' else top_TopCores.b1_9 R (.pointer (some ⟨q,0,none⟩)) (.pointer (some ⟨ab,0,none⟩)) w')) →
   top_TopCores.b1_10 R (.pointer (some ⟨q,0,none⟩)) (.tuple #[.agg #[.slice A n cA,.int .i64 asked,.int .i64 n],.int .i64 e]) w2:=by
  intro A n cA e asked h
  have y2:=(s2.box 0 rfl).1
  simp [boxAt] at y2
  have s3:=s2.alloc #[.slice A n cA,.int .i64 asked,.int .i64 n] 30
  have hc3:Chg noB w2 (w2.alloc (.cells #[.slice A n cA,.int .i64 asked,.int .i64 n] 30)):=(Chg.refl _ _).alloc _
  unfold top_TopCores.b1_10
  simp -dsimp [go_sem,y2]
  generalize w2.alloc (.cells #[.slice A n cA,.int .i64 asked,.int .i64 n] 30)=w3 at s3 hc3 ⊢
  generalize w2.heap.size=ab at s3 ⊢
  have s3:St noB w w3 [gC A1 A2 A3 A4 c1 c2 c3 c4 g q,auC ab A cA asked n]:=s3
  have y3:=(s3.box 0 rfl).1
  simp [boxAt] at y3
  simp -dsimp [go_sem,y3]
  refine CALL_of (refClosed_ct (hup w3 s3.chg).1 (hup w3 s3.chg).2) ?_
  rintro _ w4 ⟨rfl,hc4⟩
  have s4:=s3.old hc4
  have:=h w4 ab s4 (hc3.trans hc4)
  simp -dsimp [go_sem]
  by_cases he:e=0
  ·subst he
   simpa [go_sem] using this
  ·rw [if_pos he] at this
   have e1:((e:Int) != 0)=true:=by simp [he]
   rw [e1]
   simp -dsimp [go_sem]
   exact this
 have yes:∀w' ab (n:Nat) A cA asked,St noB w w' [gC A1 A2 A3 A4 c1 c2 c3 c4 g q,auC ab A cA asked n]→1<n→top_TopCores.b1_4 R (.pointer (some ⟨ab,0,none⟩)) w':=by
  intro w' ab n A cA asked s h1
  have y:=(s.box 1 rfl).1
  simp [boxAt] at y
  unfold top_TopCores.b1_4
  simp -dsimp [go_sem,y]
  unfold top_TopCores.b1_3
  simp -dsimp [go_sem,y]
  have e9:decide ((1:Int)<n)=true:=decide_eq_true (by omega)
  rw [e9]
  exact hR (.bool true) w' ⟨rfl,s.chg⟩
 have yes2:∀w' ab (n:Nat) A cA asked,St noB w w' [gC A1 A2 A3 A4 c1 c2 c3 c4 g q,auC ab A cA asked n]→1<n→top_TopCores.b1_6 R (.pointer (some ⟨ab,0,none⟩)) w':=by
  intro w' ab n A cA asked s h1
  have y:=(s.box 1 rfl).1
  simp [boxAt] at y
  unfold top_TopCores.b1_6
  simp -dsimp [go_sem,y]
  unfold top_TopCores.b1_5
  simp -dsimp [go_sem,y]
  have e9:decide ((1:Int)<n)=true:=decide_eq_true (by omega)
  rw [e9]
  exact hR (.bool true) w' ⟨rfl,s.chg⟩
 rcases hres with ⟨hn,rfl⟩ | ⟨hcl,rfl⟩ | ⟨hcl,A,cA,asked,ks,rfl,hlr,hkl,hkv,hstr⟩
 ·refine mk none 0 0 1 0 fun w' ab s3 _=>?_
  have y:=(s3.box 1 rfl).1
  simp [boxAt] at y
  rw [if_pos (by decide),bool_no closedB_iff hn]
  unfold top_TopCores.b1_2
  simp -dsimp [go_sem,y]
  unfold top_TopCores.b1_1
  simp -dsimp [go_sem]
  exact hR _ _ ⟨rfl,s3.chg⟩
 ·refine mk none 0 0 11 0 fun w' ab s3 _=>?_
  have y:=(s3.box 1 rfl).1
  simp [boxAt] at y
  rw [if_pos (by decide),closedB_iff.2 hcl]
  unfold top_TopCores.b1_2
  simp -dsimp [go_sem,y]
  unfold top_TopCores.b1_1
  simp -dsimp [go_sem]
  exact hR _ _ ⟨rfl,s3.chg⟩
 ·have h2:=ks_two hcl hlr
  refine mk A ks.length cA 0 asked fun w' ab s3 hc3=>?_
  rw [if_neg (by simp)]
  have y:=(s3.box 0 rfl).1
  simp [boxAt] at y
  unfold top_TopCores.b1_9
  simp -dsimp [go_sem,y]
  refine CALL_of (useful_ct (hup w' s3.chg).1 (hup w' s3.chg).2 hcl) ?_
  rintro _ w4 ⟨b,rfl,hc4,hb⟩
  have s4:=s3.old hc4
  cases b with
  | false =>
   simp -dsimp [go_sem]
   exact yes _ _ _ _ _ _ s4 h2
  | true =>
   simp -dsimp [go_sem]
   have y4:=(s4.box 0 rfl).1
   simp [boxAt] at y4
   unfold top_TopCores.b1_8
   simp -dsimp [go_sem,y4]
   refine CALL_of (collection_ct (hup w4 s4.chg).1 (hup w4 s4.chg).2 hcl) ?_
   rintro v w5 ⟨hc5,hcol⟩
   have s5:=s4.old hc5
   rcases hcol with ⟨v0,rfl⟩ | ⟨null,hs,gA,c,ss,rfl,htab,hlr1,hss,hsl,hco⟩
   ·unfold top_TopCores.b1_7
    simp -dsimp [go_sem]
    exact yes2 _ _ _ _ _ _ s5 h2
   ·unfold top_TopCores.b1_7
    simp -dsimp [go_sem]
    have s6:St noB w5 w5 (corM Ch.emp Ch.emp none 0 []):=((((St.refl noB w5).push (c:=Ch.emp) trivial).push (c:=Ch.emp) trivial).nilRow 39 1).push (c:=Ch.all (([]:List DK).map rowD)) ⟨fun _=>0,fun i h=>absurd rfl h,fun k c h=>by simp at h⟩
    refine cores_loop hco hss hsl s6 fun w6 aC cC D hD s7=>?_
    have hne:=fi_ne htab (hb rfl)
    have s8:St noB w w6 (corM (gC A1 A2 A3 A4 c1 c2 c3 c4 g q) (auC ab A cA asked ks.length) aC cC D):=(s5.seq s7).pick [0,1,4,5] (by decide) rfl
    have hsr:∀c∈csOf D,c.Pairwise itLt:=fun c hc=>by
     obtain ⟨a,ha,rfl⟩:=hD.snd c hc
     exact (coreF_srt (hss a ha).1).1
    have hcmp:=hD.cmp
    rw [List.take_length] at hcmp
    obtain ⟨hlen,hclo⟩:=cores_eq hne hlr hlr1 hD.nd hsr (fun c hc=>by
     obtain ⟨a,ha,rfl⟩:=hD.snd c hc
     exact ⟨a,ha,fun x=>coreF_mem a x⟩) (fun a ha=>⟨coreF a,hcmp a ha,fun x=>coreF_mem a x⟩)
    have hDl:D.length=ks.length:=by rw [←hlen];exact (List.length_map ..).symm
    have hst6:StR w6 A ks:=StR.keep hstr ((((hc3.trans hc4).trans hc5)).trans s7.chg)
    have y8:=(s8.box 1 rfl).1
    simp [boxAt] at y8
    unfold top_TopCores.b24
    simp -dsimp [go_sem,y8,hDl]
    unfold top_TopCores.b24_1
    simp -dsimp [go_sem,y8,hDl]
    unfold top_TopCores.b25
    simp -dsimp [go_sem]
    rw [show ks.length=D.length from hDl.symm]
    refine clos_loop hg hB hcl s8 hst6 hkl (fun l hl=>?_) (by omega) hD.row hsr hclo fun w' hc=>hR _ _ ⟨rfl,hc⟩
    obtain ⟨k1,k2,k3,k4⟩:=hkv l hl
    exact ⟨k1,k2,k3,(hlr.srt l hl).imp fun {x y} h e=>by subst e;exact itLt_ir _ h,k4⟩
end Go.Proofs.Ytmoepnfobnpdiaa
