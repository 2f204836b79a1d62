/-
  Texts of this claim: Gm4, Gm5, Gm6, Gm7, Gm8, Gm9, Gm10, Gm11, Gb1.
-/
import Derived.Test.YtckbgeedlobfaaaGreatDoorY12
import Derived.Test.YtckbgeedlobfaaaGreatDoorY09
set_option maxHeartbeats 1000000
set_option linter.unusedSimpArgs false
set_option linter.unusedVariables false
set_option maxRecDepth 100000
namespace Go.Px
structure Fr (b:Nat)(J F:Nat→Prop)(w w':World):Prop where
 chg:Chg (fun i=>i=b∨F i) w w'
 cell:∀j,¬J j→w'.cell? ⟨b,j,none⟩=w.cell? ⟨b,j,none⟩
 frz:∀j,w'.frozen? ⟨b,j,none⟩=w.frozen? ⟨b,j,none⟩
section
variable {b:Nat} {J F G:Nat→Prop} {w w' w'':World}
theorem Fr.refl (w:World):Fr b J F w w:=⟨Chg.refl _ _,fun _ _=>rfl,fun _=>rfl⟩
theorem Fr.trans (h:Fr b J F w w')(k:Fr b J F w' w''):Fr b J F w w'':=⟨h.chg.trans k.chg,fun j hj=>(k.cell j hj).trans (h.cell j hj),fun j=>(k.frz j).trans (h.frz j)⟩
theorem Fr.of (hc:Chg G w w')(hb:b<w.heap.size)(hG:¬G b)(hF:∀i,i<w.heap.size→G i→F i):Fr b J F w w' :=
 ⟨hc.mono fun i hi h=>Or.inr (hF i hi h),fun j _=>hc.cell (p:=⟨b,j,none⟩) hb hG,fun j=>hc.frozen (p:=⟨b,j,none⟩) hb hG⟩
theorem Fr.set {j:Nat}(hj:J j)(u:Value):Fr b J F w (w.setCell ⟨b,j,none⟩ u) :=
 ⟨(Chg.refl _ _).setCell (p:=⟨b,j,none⟩) (Or.inl (Or.inl rfl)) _,fun i hi=>by
  rw[World.cell?_setCell_other]
  intro e
  injection e with _ e
  exact hi (e ▸ hj),fun i=>World.frozen?_setCell _ _ _ _⟩
theorem Fr.mono {J' F':Nat→Prop}(h:Fr b J F w w')(hJ:∀j,J j→J' j)(hF:∀i,F i→F' i):Fr b J' F' w w' :=
 ⟨h.chg.mono fun i _ hi=>hi.imp id (hF i),fun j hj=>h.cell j fun hj'=>hj (hJ j hj'),h.frz⟩
theorem Fr.trans' (h:Fr b J F w w')(k:Fr b J G w' w'')(hG:∀i,i<w.heap.size→G i→F i):Fr b J F w w'' :=
 ⟨h.chg.trans' k.chg fun i hi hg=>hg.imp id (hG i hi),fun j hj=>(k.cell j hj).trans (h.cell j hj),fun j=>(k.frz j).trans (h.frz j)⟩
end
end Go.Px
namespace Go.Proofs.YtckbgeedlobfaaaGreatDoor
open Go.Px Go.Px.Scan Go.RowKit
theorem ZZ80:(Tryz.prog.info? 9).map (fun i=>(i.zero,i.size,i.bytes))=some (some (.string ⟨#[]⟩),1,16):=by kernel_rfl
structure NmNew (w:World)(T:Nat→Nat)(b o tx tm:Nat)(l:List ByteArray)(w':World)(T':Nat→Nat)(v' m':Value):Prop where
 nm:Nm w' T' b o tx tm v' m' l
 fr:Fr b (fun j=>j=o∨j=o+1) (fun i=>T i=tx∨T i=tm) w w'
 old:∀i,i<w.heap.size→T' i=T i
 new:∀i,T' i≠0→T i=T' i∨(w.heap.size≤i∧(T' i=tx∨T' i=tm))
 lt:∀i,T' i≠0→i<w'.heap.size
set_option maxRecDepth 100000 in
theorem Zpw {R:Ending→World→Prop}{w:World}{T:Nat→Nat}{b o tx tm mb:Nat}{v:Value}{l:List ByteArray}(h:Nm w T b o tx tm v (.map (some mb)) l){s:ByteArray}(hs:s.size≤1000)(hno:s∉l)(hl:l.length≤1000)
  (hT:∀i,T i≠0→i<w.heap.size) (hx:tx≠0) (hm:tm≠0) (hxm:tx≠tm) (hbx:T b≠tx) (hbm:T b≠tm)
  (hR:∀w' T' v',NmNew w T b o tx tm (l++[s]) w' T' v' (.map (some mb))→R (.returned (.int .i64 ((l.length:Int)+1))) w'):Zbc.b2 R (.pointer (some ⟨b,o,none⟩)) (.string s) w:=by
 have hmb:=h.map.lt rfl
 have htm:=h.tag mb rfl
 have hbw:b<w.heap.size:=World.block_lt_of_cell? _ _ h.c0
 obtain ⟨i0,hi,hz0,hz1,hz2⟩:=info_parts ZZ80
 obtain ⟨a,c,hv⟩:=Znc h.row
 unfold Zbc.b2
 generalize hap:Builtin.append_=ap
 simp[go_sem,h.c0,h.c1]
 refine Zf (ZZ145 hs w.drew) ?_
 rintro _ w1 ⟨rfl,hc1⟩
 have hc1':Chg (fun _=>False) w w1:=(Chg.refl _ _).drew.trans hc1
 have h1:=h.keep (T':=T) hc1' id (fun _ _=>id) (fun _ _=>id) (fun _ _=>rfl)
 have hs1:=hc1'.size
 have hb1:b<w1.heap.size:=Nat.lt_of_lt_of_le hbw hs1
 have hc2:Chg (fun _=>False) w1 (w1.alloc (.cells #[.string s] 9)):=(Chg.refl _ _).alloc _
 have h2:=h1.keep (T':=T) hc2 id (fun _ _=>id) (fun _ _=>id) (fun _ _=>rfl)
 simp[go_sem,h1.c0,h1.c1,h2.c0]
 rw[←hap]
 clear hap ap
 have hn:∀j u,([.string s]:List Value)[j]?=some u→(w1.alloc (.cells #[.string s] 9)).cell? ((⟨w1.heap.size,0,none⟩:Addr).add j)=some u:=Ze9 w1 [.string s] 9 rfl
 have hs2:=hc2.size
 generalize w1.alloc (.cells #[.string s] 9)=w2 at hc2 h2 hn hs2 ⊢
 refine Zi5 23 23 9 Tryz.underlying23 hi hz0 hz1 hz2 rfl (by omega) h2.row.1 rfl hn ?_ (by unfold maxLen;omega) (by unfold Zr;omega) (Nat.zero_le _) ?_
 ·intro u hu
  simp at hu
  subst hu;rfl
 intro g c3 w3 ho3 hg3 hgb
 have hc3:Chg (fun i=>T i=tx) w2 w3:=Zgd hg3 fun k hk=>h2.row.2 k hk
 have hs3:=hc3.size
 have hc03:Chg (fun i=>T i=tx) w w3:=((hc1'.trans hc2).mono fun _ _ h=>h.elim).trans hc3
 have k0:=hc3.at h2.c0 hbx
 have k1:=hc3.at h2.c1 hbx
 have kf0:=(hc3.frozen (p:=⟨b,o,none⟩) (by simp;omega) hbx).trans h2.f0
 have kf1:=(hc3.frozen (p:=⟨b,o+1,none⟩) (by simp;omega) hbx).trans h2.f1
 have kmap:=h2.map.chg hc3 (fun i hi he=>by have:=h2.tag i hi;omega)
 simp[go_sem,k0,kf0,k1]
 have k1':(w3.setCell ⟨b,o,none⟩ (.slice (some ⟨g,0,none⟩) (l.length+1) c3)).cell? ⟨b,o+1,none⟩=some (.map (some mb)):=by
  exact (World.cell?_setCell_other _ _ _ _ (by simp)).trans k1
 have k0':(w3.setCell ⟨b,o,none⟩ (.slice (some ⟨g,0,none⟩) (l.length+1) c3)).cell? ⟨b,o,none⟩=some (.slice (some ⟨g,0,none⟩) (l.length+1) c3):=World.cell?_setCell_same _ _ _ k0
 have hc4:Chg (·=b) w3 (w3.setCell ⟨b,o,none⟩ (.slice (some ⟨g,0,none⟩) (l.length+1) c3)):=(Chg.refl (·=b) w3).setCell (p:=⟨b,o,none⟩) (Or.inl rfl) _
 have kmap4:=kmap.chg hc4 (fun i hi he=>by have:=h2.tag i hi;rw[he]at this;exact hbm this)
 have ho4:=Zc7 ho3 hc4 (fun i hi he=>by
  have hgi:g=i:=by injection hi
  have e:g=b:=hgi.trans he
  rcases hgb with hgb|hgb
  ·exact hbx (h2.row.2 b (by rw[hgb,e]))
  ·omega)
 have hf4:∀j,(w3.setCell ⟨b,o,none⟩ (.slice (some ⟨g,0,none⟩) (l.length+1) c3)).frozen? ⟨b,j,none⟩=w3.frozen? ⟨b,j,none⟩:=fun j=>World.frozen?_setCell _ _ _ _
 have hF4:Fr b (fun j=>j=o∨j=o+1) (fun i=>T i=tx∨T i=tm) w (w3.setCell ⟨b,o,none⟩ (.slice (some ⟨g,0,none⟩) (l.length+1) c3)) :=
  (Fr.of hc03 hbw hbx (fun i _ h=>Or.inl h)).trans (Fr.set (Or.inl rfl) _)
 have hs4:=hc4.size
 generalize w3.setCell ⟨b,o,none⟩ (.slice (some ⟨g,0,none⟩) (l.length+1) c3)=w4 at k1' k0' hc4 kmap4 ho4 hf4 hF4 hs4 ⊢
 obtain ⟨w5,hrun,hmap5,hg5⟩:=(kmap4.chg (F:=fun _=>False) (Chg.refl _ _).drew (fun _ _=>id)).update mapTy s (by show s.size≤maxLen;unfold maxLen;omega) (by unfold maxLen;omega) (x:=(l.length:Int)+1) (by unfold Zz;omega) (by omega)
 rw[show (Value.string s)=kStr.val s from rfl,hrun]
 have hc5:Chg (·=mb) w4 w5:=((Chg.refl _ w4).drew).trans (Zgd hg5 fun k hk=>by injection hk with hk;exact hk.symm)
 have hmbb:mb≠b:=fun e=>hbm (by rw[←e];exact htm)
 have hs5:=hc5.size
 have q0:=hc5.at k0' (fun e=>hmbb e.symm)
 have q1:=hc5.at k1' (fun e=>hmbb e.symm)
 simp[go_sem,q0]
 have hpos:posH l s=0:=Zf4.2 hno
 have hgm:g≠mb:=fun e=>by
  rcases hgb with hgb|hgb
  ·have h9:=h2.row.2 g hgb
   rw[e,htm]at h9
   exact hxm h9.symm
  ·omega
 refine hR w5 (fun i=>if i=g then tx else T i) (.slice (some ⟨g,0,none⟩) (l.length+1) c3) ⟨⟨q0,q1,?_,?_,⟨?_,?_⟩,?_,?_⟩,?_,?_,?_,?_⟩
 ·rw[hc5.frozen (p:=⟨b,o,none⟩) (by simp;omega) (fun e=>hmbb e.symm),hf4 o];exact kf0
 ·rw[hc5.frozen (p:=⟨b,o+1,none⟩) (by simp;omega) (fun e=>hmbb e.symm),hf4 (o+1)];exact kf1
 ·rw[List.length_append,List.map_append]
  exact Zc7 ho4 hc5 (fun i hi he=>by injection hi with hi;exact hgm (hi.trans he))
 ·intro i hi
  injection hi with hi
  simp[←hi]
 ·rw[hpos,if_pos rfl]at hmap5
  rw[List.length_append]
  have:posH (l++[s])=fun c=>if c=s then (l.length:Int)+1 else posH l c:=funext fun c=>Zz0 hno c
  rw[this]
  rcases hmap5 with ⟨e,_⟩|⟨b',e,D,d1,d2,d3,d4⟩
  ·cases e
  ·refine Or.inr ⟨b',e,D,d1,d2,fun a=>?_,fun a ha=>?_⟩
   ·rw[d3 a];by_cases hh:a=s<;>simp[hh]
   ·have h9:=d4 a ha
    by_cases hh:a=s
    ·simp[hh];omega
    ·simp[hh]at h9 ⊢;exact h9
 ·intro i hi
  injection hi with hi
  injection hi with hi
  rw[←hi,if_neg (fun e=>hgm e.symm)];exact htm
 ·exact hF4.trans (Fr.of hc5 (by omega) (fun e=>hmbb e.symm) (fun i _ e=>Or.inr (by rw[e];exact htm)))
 ·intro i hi
  by_cases hig:i=g
  ·rcases hgb with hgb|hgb
   ·rw[if_pos hig,hig];exact (h2.row.2 g hgb).symm
   ·omega
  ·rw[if_neg hig]
 ·intro i hi
  by_cases hig:i=g
  ·rw[if_pos hig]
   rcases hgb with hgb|hgb
   ·left;rw[hig];exact h2.row.2 g hgb
   ·right;exact ⟨by omega,Or.inl rfl⟩
  ·rw[if_neg hig];exact Or.inl rfl
 ·intro i hi
  by_cases hig:i=g
  ·have:=(Zcf ho4 (k:=g) rfl).2
   omega
  ·rw[if_neg hig]at hi
   have:=hT i hi
   omega
theorem Zpd (x:Option Nat)(w:World):(binOp BinOp.eql 98 (.map x) (.map none)).run Tryz.prog w = .ok (.bool x.isNone) w:=by
 simp only[binOp,Op.equal]
 rw[show Op.maxDepth=9999+1 from rfl]
 unfold Op.equalIn
 cases x<;>simp[run_underlying Tryz.underlying98,go_sem]
theorem Zp1 (w:World):(Instr.makeMap 98 none).run Tryz.prog w = .ok (.map (some w.heap.size)) (w.alloc (.map #[] 0)):=by
 simp[Instr.makeMap,run_underlying Tryz.underlying98,go_sem]
theorem Zrg {w:World}{T:Nat→Nat}{b o tx tm:Nat}{v m:Value}{l:List ByteArray}(h:Nm w T b o tx tm v m l){s:ByteArray}(hs:s.size≤1000)(hno:s∉l)(hl:l.length≤1000)
  (hT:∀i,T i≠0→i<w.heap.size) (hx:tx≠0) (hm:tm≠0) (hxm:tx≠tm) (hbx:T b≠tx) (hbm:T b≠tm) :
  Ct Tryz.prog Zbc.id #[.pointer (some ⟨b,o,none⟩),.string s] w fun r w'=>r = .int .i64 ((l.length:Int)+1)∧∃T' v' m',NmNew w T b o tx tm (l++[s]) w' T' v' m':=by
 refine Zbc.ct fun R hR=>?_
 have hbw:b<w.heap.size:=World.block_lt_of_cell? _ _ h.c0
 unfold Zbc.run Zbc.b1
 have hmm:m = .map none∨∃mb,m = .map (some mb):=by
  rcases h.map with ⟨e,_⟩|⟨mb,e,_⟩
  ·exact Or.inl e
  ·exact Or.inr ⟨mb,e⟩
 rcases hmm with rfl|⟨mb,rfl⟩
 ·have hn0:l.length=0∧posH l=fun _=>0:=by
   rcases h.map with ⟨_,e,hf⟩|⟨mb,e,_⟩
   ·exact ⟨e,funext hf⟩
   ·cases e
  simp[go_sem,h.c0,h.c1]
  rw[Zpd]
  simp[go_sem,Zp1]
  have hc1:Chg (fun _=>False) w (w.alloc (.map #[] 0)):=(Chg.refl _ _).alloc _
  have hm1:=Zgp.made Tryz.prog kStr 9 3 w
  have hs1:(w.alloc (.map #[] 0)).heap.size=w.heap.size+1:=by simp
  have k0:=hc1.at h.c0 id
  have k1:=hc1.at h.c1 id
  have kf0:=(hc1.frozen (p:=⟨b,o,none⟩) hbw id).trans h.f0
  have kf1:=(hc1.frozen (p:=⟨b,o+1,none⟩) hbw id).trans h.f1
  have krow:=Zc7 h.row.1 hc1 (fun _ _=>id)
  generalize w.alloc (.map #[] 0)=w1 at hc1 hm1 hs1 k0 k1 kf0 kf1 krow ⊢
  simp[k1,kf1]
  have hc2:Chg (·=b) w1 (w1.setCell ⟨b,o+1,none⟩ (.map (some w.heap.size))):=(Chg.refl (·=b) w1).setCell (p:=⟨b,o+1,none⟩) (Or.inl rfl) _
  have hF:Fr b (fun j=>j=o∨j=o+1) (fun i=>T i=tx∨T i=tm) w (w1.setCell ⟨b,o+1,none⟩ (.map (some w.heap.size))):=(Fr.of hc1 hbw id (fun _ _ h=>h.elim)).trans (Fr.set (Or.inr rfl) _)
  have q0:(w1.setCell ⟨b,o+1,none⟩ (.map (some w.heap.size))).cell? ⟨b,o,none⟩=some v:=(World.cell?_setCell_other _ _ _ _ (by simp)).trans k0
  have q1:(w1.setCell ⟨b,o+1,none⟩ (.map (some w.heap.size))).cell? ⟨b,o+1,none⟩=some (.map (some w.heap.size)):=World.cell?_setCell_same _ _ _ k1
  have qf:∀j,(w1.setCell ⟨b,o+1,none⟩ (.map (some w.heap.size))).frozen? ⟨b,j,none⟩=w1.frozen? ⟨b,j,none⟩:=fun j=>World.frozen?_setCell _ _ _ _
  have qs:(w1.setCell ⟨b,o+1,none⟩ (.map (some w.heap.size))).heap.size=w1.heap.size:=by simp
  have qm:=hm1.chg hc2 (fun i hi e=>by injection hi with hi;injection hi with hi;omega)
  have qrow:=Zc7 krow hc2 (fun i hi e=>by
   have:=h.row.2 i hi
   rw[e]at this
   exact hbx this)
  generalize w1.setCell ⟨b,o+1,none⟩ (.map (some w.heap.size))=w2 at hc2 hF q0 q1 qf qs qm qrow ⊢
  have h2:Nm w2 (fun i=>if i=w.heap.size then tm else T i) b o tx tm v (.map (some w.heap.size)) l:=by
   refine ⟨q0,q1,by rw[qf];exact kf0,by rw[qf];exact kf1,⟨qrow,fun i hi=>?_⟩,?_,fun i hi=>?_⟩
   ·have:=(Zcf h.row.1 hi).2
    simp[Nat.ne_of_lt this,h.row.2 i hi]
   ·rw[hn0.1,hn0.2];exact qm
   ·injection hi with hi;injection hi with hi;simp[hi]
  rw[Zfo]
  refine Zpw h2 hs hno hl (fun i hi=>?_) hx hm hxm (by simp[Nat.ne_of_lt hbw,hbx]) (by simp[Nat.ne_of_lt hbw,hbm]) fun w' T' v' hN=>hR _ _ ⟨rfl,T',v',_,⟨hN.nm,?_,fun i hi=>?_,fun i hi=>?_,hN.lt⟩⟩
  ·by_cases e:i=w.heap.size
   ·omega
   ·simp[e]at hi;have:=hT i hi;omega
  ·refine hF.trans' (hN.fr) (fun i hi hg=>?_)
   simp[Nat.ne_of_lt hi]at hg
   exact hg
  ·rw[hN.old i (by omega)];simp[Nat.ne_of_lt hi]
  ·rcases hN.new i hi with e|⟨e1,e2⟩
   ·by_cases e':i=w.heap.size
    ·right
     simp[e']at e
     exact ⟨by omega,Or.inr (by rw[e'];exact e.symm)⟩
    ·simp[e']at e;exact Or.inl e
   ·exact Or.inr ⟨by omega,e2⟩
 ·simp[go_sem,h.c0,h.c1]
  rw[Zpd]
  simp[go_sem]
  exact Zpw h hs hno hl hT hx hm hxm hbx hbm fun w' T' v' hN=>hR _ _ ⟨rfl,T',v',_,hN⟩
end Go.Proofs.YtckbgeedlobfaaaGreatDoor
namespace Go.Px.Scan
structure BS where
 terms:List (ByteArray×Int)
 nons:List ByteArray
 levels:List Int
 rules:List (Int×List Int×Int)
 start:Int
structure BSok (S:BS):Prop where
 syms:S.terms.length+S.nons.length≤64
 tnam:∀t∈S.terms,Zec t.1
 nnam:∀t∈S.nons,Zfi t
 tnd:(S.terms.map (·.1)).Nodup
 nnd:S.nons.Nodup
 lev:S.levels.length≤S.terms.length
 grd:∀t∈S.terms,0≤t.2∧t.2≤S.levels.length
 prods:S.rules.length≤96
end Go.Px.Scan
namespace Go.Proofs.YtckbgeedlobfaaaGreatDoor
open Go.Px Go.Px.Scan Go.RowKit
attribute [-go_sem] Builtin.append_
structure Zh7 (w:World)(T:Nat→Nat)(v:Value)(l:List Int):Prop where
 rd:(Zo rInt).at1 w w.heap.size v l
 tg:l≠[]→∀i,v.ownBlock=some i→T i=9
theorem Zh7.keep {F:Nat→Prop}{w w':World}{T T':Nat→Nat}{v:Value}{l:List Int}(h:Zh7 w T v l)(hc:Chg F w w')(hF:∀i,T i=9→¬F i)(hT:∀i,i<w.heap.size→T' i=T i):Zh7 w' T' v l:=by
 obtain ⟨⟨A,c,hv,h1,h2,h3,h4⟩,ht⟩:=h
 injection hv with hv
 subst hv
 refine ⟨⟨A,c,rfl,h1,h2,h3,fun hpos=>?_⟩,fun hne i hi=>?_⟩
 ·obtain ⟨b,o,rfl,hb,hcell⟩:=h4 hpos
  have htb:=ht (fun e=>by rw[e]at hpos;simp at hpos) b rfl
  refine ⟨b,o,rfl,Nat.lt_of_lt_of_le hb hc.size,fun i x hi=>?_⟩
  obtain ⟨ys,hy,hj⟩:=hcell i x hi
  exact ⟨ys,hy,fun j u hu=>(hc.cell (p:=⟨b,o+(i*rInt.size+j),none⟩) hb (hF b htb)).trans (hj j u hu)⟩
 ·have hpos:0<l.length:=by cases l with
   | nil=>exact absurd rfl hne
   | cons x r=>simp
  obtain ⟨b,o,rfl,hb,_⟩:=h4 hpos
  have htb:=ht hne b rfl
  injection hi with hi
  rw[←hi,hT b hb];exact htb
def Zh3 (r:Int×List Int×Int)(v:Value):List Value:=[.int .i64 r.1,v,.int .i64 r.2.2]
structure BV where
 vt:Value
 vm:Value
 vn:Value
 vk:Value
 vg:Value
 vl:Value
 vr:Value
 rs:List Value
structure Bld (w:World)(T:Nat→Nat)(b:Nat)(V:BV)(S:BS):Prop where
 tag:T b=1
 lt:∀i,T i≠0→i<w.heap.size
 terms:Nm w T b 0 2 3 V.vt V.vm (S.terms.map (·.1))
 nons:Nm w T b 2 4 5 V.vn V.vk S.nons
 cg:w.cell? ⟨b,4,none⟩=some V.vg
 cl:w.cell? ⟨b,5,none⟩=some V.vl
 cr:w.cell? ⟨b,6,none⟩=some V.vr
 cs:w.cell? ⟨b,7,none⟩=some (.int .i64 S.start)
 fz:∀j,j<8→w.frozen? ⟨b,j,none⟩=false
 graded:Row w T 6 3 1 V.vg S.terms.length (S.terms.map fun t=> .int .i64 t.2)
 levels:Row w T 7 3 1 V.vl S.levels.length (S.levels.map (.int .i64 ·))
 rules:Row w T 8 130 3 V.vr S.rules.length ((S.rules.zip V.rs).flatMap fun x=>Zh3 x.1 x.2)
 rlen:V.rs.length=S.rules.length
 rights:∀(i:Nat) r v,S.rules[i]?=some r→V.rs[i]?=some v→Zh7 w T v r.2.1
 ok:BSok S
theorem Bld.keep {F:Nat→Prop}{w w':World}{T:Nat→Nat}{b:Nat}{V:BV}{S:BS}(h:Bld w T b V S)(hc:Chg F w w')(hF:∀i,T i≠0→¬F i):Bld w' T b V S:=by
 have hb:b<w.heap.size:=h.lt b (by rw[h.tag];omega)
 have hFb:¬F b:=hF b (by rw[h.tag];omega)
 have ht:∀k,k≠0→∀i,T i=k→¬F i:=fun k hk i hi=>hF i (by omega)
 exact ⟨h.tag,fun i hi=>Nat.lt_of_lt_of_le (h.lt i hi) hc.size,h.terms.keep hc hFb (ht 2 (by omega)) (ht 3 (by omega)) (fun _ _=>rfl),h.nons.keep hc hFb (ht 4 (by omega)) (ht 5 (by omega)) (fun _ _=>rfl),
  hc.at h.cg hFb,hc.at h.cl hFb,hc.at h.cr hFb,hc.at h.cs hFb,fun j hj=>(hc.frozen (p:=⟨b,j,none⟩) hb hFb).trans (h.fz j hj),
  h.graded.keep hc (ht 6 (by omega)) (fun _ _=>rfl),h.levels.keep hc (ht 7 (by omega)) (fun _ _=>rfl),h.rules.keep hc (ht 8 (by omega)) (fun _ _=>rfl),h.rlen,
  fun i r v hr hv=>(h.rights i r v hr hv).keep hc (ht 9 (by omega)) (fun _ _=>rfl),h.ok⟩
structure Zgf (w:World)(T:Nat→Nat)(b:Nat)(S':BS)(w':World):Prop where
 ex:∃T' V',Bld w' T' b V' S'∧(∀i,i<w.heap.size→T' i=T i)
 chg:Chg (fun i=>T i≠0) w w'
theorem Zgf.same {w w':World}{T:Nat→Nat}{b:Nat}{V:BV}{S:BS}(h:Bld w T b V S)(hc:Chg (fun _=>False) w w'):Zgf w T b S w' :=
 ⟨⟨T,V,h.keep hc (fun _ _=>id),fun _ _=>rfl⟩,hc.mono fun _ _ h=>h.elim⟩
theorem Nm.fr {J F:Nat→Prop}{w w':World}{T T':Nat→Nat}{b o tx tm:Nat}{v m:Value}{l:List ByteArray}(h:Nm w T b o tx tm v m l)(hf:Fr b J F w w')(ho:¬J o)(ho1:¬J (o+1))(hx:∀i,T i=tx→¬(i=b∨F i))(hm:∀i,T i=tm→¬(i=b∨F i))(hT:∀i,i<w.heap.size→T' i=T i):Nm w' T' b o tx tm v m l :=
 ⟨(hf.cell o ho).trans h.c0,(hf.cell (o+1) ho1).trans h.c1,(hf.frz o).trans h.f0,(hf.frz (o+1)).trans h.f1,
  h.row.keep hf.chg hx hT,h.map.chg hf.chg fun i hi=>hm i (h.tag i hi),fun i hi=>by rw[hT i (h.map.lt hi)];exact h.tag i hi⟩
noncomputable def Zc4 (S:BS)(s:ByteArray):Int×Int×BS :=
 if tmB s=false then (0,1,S)
 else if posH (S.terms.map (·.1)) s≠0 then (posH (S.terms.map (·.1)) s,0,S)
 else if 64≤S.terms.length+S.nons.length then (0,11,S)
 else ((S.terms.length:Int)+1,0,{S with terms:=S.terms++[(s,0)] })
theorem ZZ131:(Tryz.prog.info? 3).map (fun i=>(i.zero,i.size,i.bytes))=some (some (.int .i64 0),1,8):=by kernel_rfl
theorem Zl9 (l:List ByteArray)(s:ByteArray):0≤posH l s:=by unfold posH;split<;>omega
set_option maxRecDepth 100000 in
theorem ZZ72 {R:Ending→World→Prop}{w w1:World}{T:Nat→Nat}{b:Nat}{V:BV}{S:BS}(h:Bld w T b V S){s:ByteArray}(hs:s.size≤maxLen)(htp:Zec s)(ht:tmB s=true)(hc1:Chg (fun _=>False) w w1)
  (hR:∀v w',v = .tuple #[.int .i64 (Zc4 S s).1,.int .i64 (Zc4 S s).2.1]∧Zgf w T b (Zc4 S s).2.2 w'→R (.returned v) w'):Zu.b3 R (.pointer (some ⟨b,0,none⟩)) (.string s) w1:=by
 have hsy:=h.ok.syms
 have hbw:b<w.heap.size:=h.lt b (by rw[h.tag];omega)
 unfold Zu.b3
 have h1:=h.keep hc1 (fun _ _=>id)
 simp[go_sem]
 refine Zf (Zyd h1.terms hs) ?_
 rintro _ _ ⟨rfl,rfl⟩
 simp[go_sem]
 have hpp:=Zl9 (S.terms.map (·.1)) s
 refine Za (fun h2=>?_) (fun h2=>?_)<;>simp at h2
 ·have ha:Zc4 S s=(posH (S.terms.map (·.1)) s,0,S):=by unfold Zc4;rw[if_neg (by simp[ht]),if_pos (by omega)]
  rw[ha]at hR
  exact hR _ _ ⟨rfl,Zgf.same h hc1⟩
 ·have hz:posH (S.terms.map (·.1)) s=0:=by omega
  have hno:s∉S.terms.map (·.1):=Zf4.1 hz
  simp[go_sem]
  have h1d:=h1.keep (F:=fun _=>False) (Chg.refl _ _).drew (fun _ _=>id)
  refine Zf (Zla h1d.terms) ?_
  rintro _ _ ⟨rfl,rfl⟩
  refine Zf (Zla h1d.nons) ?_
  rintro _ _ ⟨rfl,rfl⟩
  have wsum:IntKind.i64.wrap (((S.terms.map (·.1)).length:Int)+S.nons.length)=((S.terms.map (·.1)).length:Int)+S.nons.length:=IntWalk.i64_in _ (by rw[List.length_map];omega)
  rw[List.length_map]at wsum ⊢
  simp[go_sem,wsum]
  refine Za (fun h3=>?_) (fun h3=>?_)<;>simp at h3
  ·have ha:Zc4 S s=(0,11,S):=by unfold Zc4;rw[if_neg (by simp[ht]),if_neg (by simp[hz]),if_pos (by omega)]
   rw[ha]at hR
   exact hR _ _ ⟨rfl,Zgf.same h hc1.drew⟩
  ·have ha:Zc4 S s=((S.terms.length:Int)+1,0,{S with terms:=S.terms++[(s,0)] }):=by unfold Zc4;rw[if_neg (by simp[ht]),if_neg (by simp[hz]),if_neg (by omega)]
   rw[ha]at hR
   obtain ⟨a,c,hv⟩:=Znc h1.graded
   have hcg:=h1.cg
   rw[hv]at hcg
   simp[go_sem,hcg]
   obtain ⟨i0,hi,hz0,hz1,hz2⟩:=info_parts ZZ131
   have hc2:Chg (fun _=>False) w1 (w1.alloc (Obj.cells #[Value.int IntKind.i64 0] 3)).drew:=((Chg.refl _ _).alloc _).drew
   have h2:=h1.keep hc2 (fun _ _=>id)
   have hn:∀j u,([.int .i64 0]:List Value)[j]?=some u→(w1.alloc (Obj.cells #[Value.int IntKind.i64 0] 3)).drew.cell? ((⟨w1.heap.size,0,none⟩:Addr).add j)=some u:=by
    intro j u hj
    simpa using Ze9 w1 [.int .i64 0] 3 rfl j u hj
   have hs2:=hc2.size
   generalize (w1.alloc (Obj.cells #[Value.int IntKind.i64 0] 3)).drew=w2 at hc2 h2 hn hs2 ⊢
   have hrow:=h2.graded.1
   rw[hv]at hrow
   refine Zi5 24 24 3 Tryz.underlying24 hi hz0 hz1 hz2 rfl (by omega) hrow rfl hn ?_ (by unfold maxLen;omega) (by unfold Zr;omega) (Nat.zero_le _) ?_
   ·intro u hu
    simp at hu
    subst hu;rfl
   intro g c3 w3 ho3 hg3 hgb
   have hgt:(Value.slice a S.terms.length c).ownBlock=some g→T g=6:=fun e=>h2.graded.2 g (by rw[hv];exact e)
   have hc3:Chg (fun i=>T i=6) w2 w3:=Zgd hg3 fun k hk=>h2.graded.2 k (by rw[hv];exact hk)
   have hs3:=hc3.size
   have hw2:b<w2.heap.size:=h2.lt b (by rw[h.tag];omega)
   have htb:T b≠6:=by rw[h.tag];omega
   have hgb':g≠b:=by
    rcases hgb with hgb|hgb
    ·intro e;exact htb (by rw[←e];exact hgt hgb)
    ·omega
   have k4:=hc3.at h2.cg htb
   have kf4:=(hc3.frozen (p:=⟨b,4,none⟩) hw2 htb).trans (h2.fz 4 (by omega))
   simp[go_sem,k4,kf4]
   have hF4:Fr b (fun j=>j=4) (fun i=>T i=6) w2 (w3.setCell ⟨b,4,none⟩ (.slice (some ⟨g,0,none⟩) (S.terms.length+1) c3)) :=
    (Fr.of hc3 hw2 htb (fun i _ h=>h)).trans (Fr.set (J:=fun j=>j=4) (j:=4) rfl _)
   have kc4:(w3.setCell ⟨b,4,none⟩ (.slice (some ⟨g,0,none⟩) (S.terms.length+1) c3)).cell? ⟨b,4,none⟩=some (.slice (some ⟨g,0,none⟩) (S.terms.length+1) c3):=World.cell?_setCell_same _ _ _ k4
   have hc4:Chg (·=b) w3 (w3.setCell ⟨b,4,none⟩ (.slice (some ⟨g,0,none⟩) (S.terms.length+1) c3)):=(Chg.refl (·=b) w3).setCell (p:=⟨b,4,none⟩) (Or.inl rfl) _
   have hs4:(w3.setCell ⟨b,4,none⟩ (.slice (some ⟨g,0,none⟩) (S.terms.length+1) c3)).heap.size=w3.heap.size:=by simp
   have ho4:=Zc7 ho3 hc4 (fun i hi he=>by injection hi with hi;exact hgb' (hi.trans he))
   have hg4:=(Zcf ho4 (k:=g) rfl).2
   generalize w3.setCell ⟨b,4,none⟩ (.slice (some ⟨g,0,none⟩) (S.terms.length+1) c3)=w4 at hF4 kc4 hs4 ho4 hg4 ⊢
   have hT1:∀i,i<w2.heap.size→(fun i=>if i=g then 6 else T i) i=T i:=by
    intro i hi
    by_cases e:i=g
    ·rcases hgb with hgb|hgb
     ·simp[e];exact (hgt hgb).symm
     ·omega
    ·simp[e]
   generalize hT1d:(fun i=>if i=g then 6 else T i)=T1 at hT1
   have hT1g:∀i,T1 i=if i=g then 6 else T i:=fun i=>by rw[←hT1d]
   have ne:∀k,k≠1→k≠6→∀i,T i=k→¬(i=b∨T i=6):=fun k h1' h6 i hi he=>by
    rcases he with he|he
    ·rw[he,h.tag]at hi;omega
    ·omega
   have hb1:T1 b=1:=by rw[hT1 b hw2];exact h.tag
   have hsz16:s.size≤1000:=by have:=htp.2.1;omega
   have ht4:=h2.terms.fr hF4 (by omega) (by omega) (ne 2 (by omega) (by omega)) (ne 3 (by omega) (by omega)) hT1
   refine Zf (Zrg ht4 hsz16 hno (by rw[List.length_map];omega) (fun i hi=>?_) (by omega) (by omega) (by omega) (by rw[hb1];omega) (by rw[hb1];omega)) ?_
   ·by_cases e:i=g
    ·rw[e];exact hg4
    ·have:=h2.lt i (by rw[hT1g i,if_neg e]at hi;exact hi)
     omega
   rintro _ w5 ⟨rfl,T5,v5,m5,hN⟩
   have hb4:b<w4.heap.size:=by omega
   have hT5:∀i,i<w2.heap.size→T5 i=T i:=fun i hi=>(hN.old i (by omega)).trans (hT1 i hi)
   have ne1:∀k,k≠1→k≠2→k≠3→∀i,T1 i=k→¬(i=b∨(T1 i=2∨T1 i=3)):=fun k h1' h2' h3' i hi he=>by
    rcases he with he|he
    ·rw[he,hb1]at hi;omega
    ·omega
   have hF45:Fr b (fun j=>j=4∨j=0∨j=1) (fun i=>T i=6∨T i=2∨T i=3) w2 w5 :=
    (hF4.mono (fun j hj=>Or.inl hj) (fun i hi=>Or.inl hi)).trans' (hN.fr.mono (fun j hj=>by omega) (fun i hi=>hi)) (fun i hi hg=>by rw[hT1 i hi]at hg;exact Or.inr hg)
   have neA:∀k,k≠1→k≠2→k≠3→k≠6→∀i,T i=k→¬(i=b∨(T i=6∨T i=2∨T i=3)):=fun k h1' h2' h3' h6' i hi he=>by
    rcases he with he|he
    ·rw[he,h.tag]at hi;omega
    ·omega
   refine hR _ _ ⟨?_,⟨T5,{V with vt:=v5,vm:=m5,vg := .slice (some ⟨g,0,none⟩) (S.terms.length+1) c3 },⟨?_,hN.lt,?_,?_,?_,?_,?_,?_,?_,?_,?_,?_,h2.rlen,?_,?_⟩,?_⟩,?_⟩
   ·simp
   ·rw[hT5 b hw2];exact h.tag
   ·rw[List.map_append];exact hN.nm
   ·exact h2.nons.fr hF45 (by omega) (by omega) (neA 4 (by omega) (by omega) (by omega) (by omega)) (neA 5 (by omega) (by omega) (by omega) (by omega)) hT5
   ·exact (hN.fr.cell 4 (by omega)).trans kc4
   ·exact (hF45.cell 5 (by omega)).trans h2.cl
   ·exact (hF45.cell 6 (by omega)).trans h2.cr
   ·exact (hF45.cell 7 (by omega)).trans h2.cs
   ·exact fun j hj=>(hF45.frz j).trans (h2.fz j hj)
   ·have hr4:Row w4 T1 6 3 1 (.slice (some ⟨g,0,none⟩) (S.terms.length+1) c3) (S.terms.length+1) ((S.terms.map fun t=> .int .i64 t.2)++[.int .i64 0]) :=
     ⟨ho4,fun i hi=>by injection hi with hi;rw[hT1g,if_pos hi.symm]⟩
    have:=hr4.keep (T':=T5) hN.fr.chg (ne1 6 (by omega) (by omega) (by omega)) hN.old
    rw[List.length_append,List.map_append]
    exact this
   ·have:=h2.levels.keep (T':=T5) hF45.chg (neA 7 (by omega) (by omega) (by omega) (by omega)) hT5
    exact this
   ·exact h2.rules.keep (T':=T5) hF45.chg (neA 8 (by omega) (by omega) (by omega) (by omega)) hT5
   ·exact fun i r v hr hv=>(h2.rights i r v hr hv).keep hF45.chg (neA 9 (by omega) (by omega) (by omega) (by omega)) hT5
   ·refine ⟨?_,?_,h.ok.nnam,?_,h.ok.nnd,?_,?_,h.ok.prods⟩
    ·simp;omega
    ·intro t ht;simp at ht;rcases ht with ht | rfl
     ·exact h.ok.tnam t ht
     ·exact htp
    ·rw[List.map_append]
     refine List.nodup_append.2 ⟨h.ok.tnd,by simp,fun a' ha' b' hb'=>?_⟩
     simp at hb';subst hb'
     intro e;subst e;exact hno ha'
    ·have:=h.ok.lev;simp;omega
    ·intro t ht;simp at ht;rcases ht with ht | rfl
     ·exact h.ok.grd t ht
     ·simp
   ·exact fun i hi=>hT5 i (by have:=hc1.size;omega)
   ·refine ((hc1.trans hc2).mono fun _ _ h=>h.elim).trans (hF45.chg.mono fun i hi he=>?_)
    rcases he with he|he
    ·rw[he,h.tag];omega
    ·omega
set_option maxRecDepth 100000 in
theorem ZZ230 {w:World}{T:Nat→Nat}{b:Nat}{V:BV}{S:BS}(h:Bld w T b V S){s:ByteArray}(hs:s.size≤maxLen) :
  Ct Tryz.prog Zu.id #[.pointer (some ⟨b,0,none⟩),.string s] w fun v w'=>v = .tuple #[.int .i64 (Zc4 S s).1,.int .i64 (Zc4 S s).2.1]∧Zgf w T b (Zc4 S s).2.2 w':=by
 refine Zu.ct fun R hR=>?_
 have hbw:b<w.heap.size:=h.lt b (by rw[h.tag];omega)
 have hsy:=h.ok.syms
 cases ht:tmB s with
 | false=>
  have ha:Zc4 S s=(0,1,S):=by unfold Zc4;rw[if_pos ht]
  rw[ha]at hR
  unfold Zu.run Zu.b1 Zu.b4
  simp[go_sem]
  refine Zf (Zm0 hs w) ?_
  rintro _ w1 ⟨rfl,hc1⟩
  rw[ht]
  simp[go_sem]
  unfold Zu.b5
  simp[go_sem]
  exact hR _ _ ⟨rfl,Zgf.same h hc1⟩
 | true=>
  have htp:Zec s:=Zhu.1 ht
  unfold Zu.run Zu.b1 Zu.b4
  simp[go_sem]
  refine Zf (Zm0 hs w) ?_
  rintro _ w1 ⟨rfl,hc1⟩
  rw[ht]
  simp[go_sem]
  unfold Zu.b5
  simp[go_sem]
  refine ZZ72 h hs htp ht hc1 hR
end Go.Proofs.YtckbgeedlobfaaaGreatDoor
namespace Go.Proofs.YtckbgeedlobfaaaGreatDoor
open Go.Px Go.Px.Scan Go.RowKit
attribute [-go_sem] Builtin.append_
def zeroB:Array Value:=#[.slice none 0 0,.map none,.slice none 0 0,.map none,.slice none 0 0,.slice none 0 0,.slice none 0 0,.int .i64 0]
def S0:BS:=⟨[],[],[],[],0⟩
def V0:BV:=⟨.slice none 0 0,.map none,.slice none 0 0,.map none,.slice none 0 0,.slice none 0 0,.slice none 0 0,[]⟩
theorem Row.nil (w:World)(T:Nat→Nat)(tag e size:Nat):Row w T tag e size (.slice none 0 0) 0 []:=⟨⟨by simp,Or.inl ⟨rfl,rfl⟩⟩,fun i hi=>by cases hi⟩
theorem Nm.zero {w:World}{T:Nat→Nat}{b o tx tm:Nat}(c0:w.cell? ⟨b,o,none⟩=some (.slice none 0 0))(c1:w.cell? ⟨b,o+1,none⟩=some (.map none))(f0:w.frozen? ⟨b,o,none⟩=false)(f1:w.frozen? ⟨b,o+1,none⟩=false):Nm w T b o tx tm (.slice none 0 0) (.map none) [] :=
 ⟨c0,c1,f0,f1,Row.nil _ _ _ _ _,by
  have:posH []=fun _=>0:=funext fun c=>by simp[posH,posN]
  rw[this];exact Zgp.nil,fun i hi=>by cases hi⟩
def T0 (n:Nat):Nat→Nat:=fun i=>if i=n then 1 else 0
theorem T0_ne {n i:Nat}(h:T0 n i≠0):i=n:=by
 unfold T0 at h
 split at h
 ·assumption
 ·exact absurd rfl h
theorem Bld.zero (w:World){n:Nat}(hn:n=w.heap.size):Bld (w.alloc (.cells zeroB 115)) (T0 n) n V0 S0 where
 tag:=by simp[T0]
 lt i hi:=by
  have:=T0_ne hi
  simp;omega
 terms:=Nm.zero (Zck w _ _ hn 0) (Zck w _ _ hn 1) (Zcs w _ _ hn 0) (Zcs w _ _ hn 1)
 nons:=Nm.zero (Zck w _ _ hn 2) (Zck w _ _ hn 3) (Zcs w _ _ hn 2) (Zcs w _ _ hn 3)
 cg:=Zck w _ _ hn 4
 cl:=Zck w _ _ hn 5
 cr:=Zck w _ _ hn 6
 cs:=Zck w _ _ hn 7
 fz j _:=Zcs w _ _ hn j
 graded:=Row.nil _ _ _ _ _
 levels:=Row.nil _ _ _ _ _
 rules:=Row.nil _ _ _ _ _
 rlen:=rfl
 rights i r v h:=by cases h
 ok:=⟨by simp[S0],by simp[S0],by simp[S0],by simp[S0],by simp[S0],by simp[S0],by simp[S0],by simp[S0]⟩
theorem ZZ303 (w:World):Ct Tryz.prog Zgh.id #[] w fun r w'=>r = .pointer (some ⟨w.heap.size,0,none⟩)∧w.alloc (.cells zeroB 115)=w':=by
 refine Zgh.ct fun R hR=>?_
 unfold Zgh.run Zgh.b1
 simp[go_sem]
 exact hR _ _ ⟨rfl,rfl⟩
end Go.Proofs.YtckbgeedlobfaaaGreatDoor
namespace Go.Proofs.YtckbgeedlobfaaaGreatDoor
open Go.Px Go.Px.Scan Go.RowKit
attribute [-go_sem] Builtin.append_
noncomputable def nonA (S:BS)(s:ByteArray):Int×Int×BS :=
 if nmB s=false then (0,1,S)
 else if posH S.nons s≠0 then (- posH S.nons s,0,S)
 else if 64≤S.terms.length+S.nons.length then (0,11,S)
 else (- ((S.nons.length:Int)+1),0,{S with nons:=S.nons++[s] })
theorem Ztc (l:List ByteArray)(s:ByteArray):posH l s≤l.length:=by unfold posH;split<;>omega
set_option maxRecDepth 100000 in
theorem ZZ229 {R:Ending→World→Prop}{w w1:World}{T:Nat→Nat}{b:Nat}{V:BV}{S:BS}(h:Bld w T b V S){s:ByteArray}(hs:s.size≤maxLen)(htp:Zfi s)(ht:nmB s=true)(hc1:Chg (fun _=>False) w w1)
  (hR:∀v w',v = .tuple #[.int .i64 (nonA S s).1,.int .i64 (nonA S s).2.1]∧Zgf w T b (nonA S s).2.2 w'→R (.returned v) w'):Zad.b3 R (.pointer (some ⟨b,0,none⟩)) (.string s) w1:=by
 have hsy:=h.ok.syms
 have hbw:b<w.heap.size:=h.lt b (by rw[h.tag];omega)
 unfold Zad.b3
 have h1:=h.keep hc1 (fun _ _=>id)
 simp[go_sem]
 refine Zf (Zyd h1.nons hs) ?_
 rintro _ _ ⟨rfl,rfl⟩
 simp[go_sem]
 have hpp:=Zl9 S.nons s
 have hpl:=Ztc S.nons s
 refine Za (fun h2=>?_) (fun h2=>?_)<;>simp at h2
 ·have ha:nonA S s=(- posH S.nons s,0,S):=by unfold nonA;rw[if_neg (by simp[ht]),if_pos (by omega)]
  rw[ha]at hR
  have hw:IntKind.i64.wrap (- posH S.nons s) =-posH S.nons s:=IntWalk.i64_in _ (by omega)
  simp[go_sem,hw]
  exact hR _ _ ⟨rfl,Zgf.same h hc1⟩
 ·have hz:posH S.nons s=0:=by omega
  have hno:s∉S.nons:=Zf4.1 hz
  simp[go_sem]
  have h1d:=h1.keep (F:=fun _=>False) (Chg.refl _ _).drew (fun _ _=>id)
  refine Zf (Zla h1d.terms) ?_
  rintro _ _ ⟨rfl,rfl⟩
  refine Zf (Zla h1d.nons) ?_
  rintro _ _ ⟨rfl,rfl⟩
  have wsum:IntKind.i64.wrap (((S.terms.map (·.1)).length:Int)+S.nons.length)=((S.terms.map (·.1)).length:Int)+S.nons.length:=IntWalk.i64_in _ (by rw[List.length_map];omega)
  rw[List.length_map]at wsum ⊢
  simp[go_sem,wsum]
  refine Za (fun h3=>?_) (fun h3=>?_)<;>simp at h3
  ·have ha:nonA S s=(0,11,S):=by unfold nonA;rw[if_neg (by simp[ht]),if_neg (by simp[hz]),if_pos (by omega)]
   rw[ha]at hR
   exact hR _ _ ⟨rfl,Zgf.same h hc1.drew⟩
  ·have ha:nonA S s=(- ((S.nons.length:Int)+1),0,{S with nons:=S.nons++[s] }):=by unfold nonA;rw[if_neg (by simp[ht]),if_neg (by simp[hz]),if_neg (by omega)]
   rw[ha]at hR
   simp[go_sem]
   have hsz16:s.size≤1000:=by have:=htp.2.1;omega
   have hc2:Chg (fun _=>False) w w1.drew:=hc1.drew
   have hb1:b<w1.drew.heap.size:=by have:=hc2.size;omega
   refine Zf (Zrg h1d.nons hsz16 hno (by omega) h1d.lt (by omega) (by omega) (by omega) (by rw[h.tag];omega) (by rw[h.tag];omega)) ?_
   rintro _ w5 ⟨rfl,T5,v5,m5,hN⟩
   have hw:IntKind.i64.wrap (- ((S.nons.length:Int)+1)) =-((S.nons.length:Int)+1):=IntWalk.i64_in _ (by omega)
   simp[go_sem,hw]
   have hF:=hN.fr
   have neA:∀k,k≠1→k≠4→k≠5→∀i,T i=k→¬(i=b∨(T i=4∨T i=5)):=fun k h1' h2' h3' i hi he=>by
    rcases he with he|he
    ·rw[he,h.tag]at hi;omega
    ·omega
   refine hR _ _ ⟨?_,⟨T5,{V with vn:=v5,vk:=m5 },⟨?_,hN.lt,?_,hN.nm,?_,?_,?_,?_,?_,?_,?_,?_,h1d.rlen,?_,?_⟩,?_⟩,?_⟩
   ·simp
   ·rw[hN.old b hb1];exact h.tag
   ·exact h1d.terms.fr hF (by omega) (by omega) (neA 2 (by omega) (by omega) (by omega)) (neA 3 (by omega) (by omega) (by omega)) hN.old
   ·exact (hF.cell 4 (by omega)).trans h1d.cg
   ·exact (hF.cell 5 (by omega)).trans h1d.cl
   ·exact (hF.cell 6 (by omega)).trans h1d.cr
   ·exact (hF.cell 7 (by omega)).trans h1d.cs
   ·exact fun j hj=>(hF.frz j).trans (h1d.fz j hj)
   ·exact h1d.graded.keep hF.chg (neA 6 (by omega) (by omega) (by omega)) hN.old
   ·exact h1d.levels.keep hF.chg (neA 7 (by omega) (by omega) (by omega)) hN.old
   ·exact h1d.rules.keep hF.chg (neA 8 (by omega) (by omega) (by omega)) hN.old
   ·exact fun i r v hr hv=>(h1d.rights i r v hr hv).keep hF.chg (neA 9 (by omega) (by omega) (by omega)) hN.old
   ·refine ⟨?_,h.ok.tnam,?_,h.ok.tnd,?_,h.ok.lev,h.ok.grd,h.ok.prods⟩
    ·simp;omega
    ·intro t ht;simp at ht;rcases ht with ht | rfl
     ·exact h.ok.nnam t ht
     ·exact htp
    ·refine List.nodup_append.2 ⟨h.ok.nnd,by simp,fun a' ha' b' hb'=>?_⟩
     simp at hb';subst hb'
     intro e;subst e;exact hno ha'
   ·exact fun i hi=>hN.old i (by have:=hc2.size;omega)
   ·refine (hc2.mono fun _ _ h=>h.elim).trans (hF.chg.mono fun i hi he=>?_)
    rcases he with he|he
    ·rw[he,h.tag];omega
    ·omega
set_option maxRecDepth 100000 in
theorem ZZ332 {w:World}{T:Nat→Nat}{b:Nat}{V:BV}{S:BS}(h:Bld w T b V S){s:ByteArray}(hs:s.size≤maxLen) :
  Ct Tryz.prog Zad.id #[.pointer (some ⟨b,0,none⟩),.string s] w fun v w'=>v = .tuple #[.int .i64 (nonA S s).1,.int .i64 (nonA S s).2.1]∧Zgf w T b (nonA S s).2.2 w':=by
 refine Zad.ct fun R hR=>?_
 cases ht:nmB s with
 | false=>
  have ha:nonA S s=(0,1,S):=by unfold nonA;rw[if_pos ht]
  rw[ha]at hR
  unfold Zad.run Zad.b1 Zad.b4
  simp[go_sem]
  refine Zf (Znt hs w) ?_
  rintro _ w1 ⟨rfl,hc1⟩
  rw[ht]
  simp[go_sem]
  unfold Zad.b5
  simp[go_sem]
  exact hR _ _ ⟨rfl,Zgf.same h hc1⟩
 | true=>
  unfold Zad.run Zad.b1 Zad.b4
  simp[go_sem]
  refine Zf (Znt hs w) ?_
  rintro _ w1 ⟨rfl,hc1⟩
  rw[ht]
  simp[go_sem]
  unfold Zad.b5
  simp[go_sem]
  exact ZZ229 h hs (Zho.1 ht) ht hc1 hR
def isT (S:BS)(h:Int):Bool:=decide (1≤h∧h≤S.terms.length)
def isN (S:BS)(h:Int):Bool:=decide (h<0 ∧ -(S.nons.length:Int)≤h)
theorem Zif {w:World}{T:Nat→Nat}{b:Nat}{V:BV}{S:BS}(h:Bld w T b V S){x:Int}(hx:Zz x) :
  Ct Tryz.prog Zaw.id #[.pointer (some ⟨b,0,none⟩),.int .i64 x] w fun v w'=>v = .bool (isT S x)∧w=w':=by
 refine Zaw.ct fun R hR=>?_
 have:=h.ok.syms
 unfold Zaw.run Zaw.b1
 simp[go_sem]
 refine Za (fun h2=>?_) (fun h2=>?_)<;>simp at h2
 ·simp[go_sem]
  refine Zf (Zla h.terms) ?_
  rintro _ _ ⟨rfl,rfl⟩
  simp[go_sem]
  refine hR _ _ ⟨?_,rfl⟩
  unfold isT
  congr 1
  refine decide_eq_decide.2 ?_
  omega
 ·refine hR _ _ ⟨?_,rfl⟩
  unfold isT
  congr 1
  refine (decide_eq_false ?_).symm
  omega
theorem Zgs {w:World}{T:Nat→Nat}{b:Nat}{V:BV}{S:BS}(h:Bld w T b V S){x:Int}(hx:Zz x) :
  Ct Tryz.prog Zas.id #[.pointer (some ⟨b,0,none⟩),.int .i64 x] w fun v w'=>v = .bool (isN S x)∧w=w':=by
 refine Zas.ct fun R hR=>?_
 have:=h.ok.syms
 unfold Zas.run Zas.b1
 simp[go_sem]
 refine Za (fun h2=>?_) (fun h2=>?_)<;>simp at h2
 ·simp[go_sem]
  refine Zf (Zla h.nons) ?_
  rintro _ _ ⟨rfl,rfl⟩
  have hw:IntKind.i64.wrap (- (S.nons.length:Int)) =-(S.nons.length:Int):=IntWalk.i64_in _ (by omega)
  simp[go_sem,hw]
  refine hR _ _ ⟨?_,rfl⟩
  unfold isN
  congr 1
  refine decide_eq_decide.2 ?_
  omega
 ·refine hR _ _ ⟨?_,rfl⟩
  unfold isN
  congr 1
  refine (decide_eq_false ?_).symm
  omega
theorem Fr.one (b j:Nat)(F:Nat→Prop)(w:World)(u:Value):Fr b (·=j) F w (w.setCell ⟨b,j,none⟩ u):=Fr.set (J:=(·=j)) (j:=j) rfl u
theorem ZZ123 {w:World}{T:Nat→Nat}{b:Nat}{V:BV}{S:BS}(h:Bld w T b V S){x:Int}(hx:Zz x) :
  Ct Tryz.prog Za0.id #[.pointer (some ⟨b,0,none⟩),.int .i64 x] w fun v w'=>v = .int .i64 (if isN S x then 0 else 1)∧Zgf w T b (if isN S x then {S with start:=x } else S) w':=by
 refine Za0.ct fun R hR=>?_
 unfold Za0.run Za0.b1 Za0.b4
 simp[go_sem]
 refine Zf (Zgs h hx) ?_
 rintro _ _ ⟨rfl,rfl⟩
 cases hn:isN S x with
 | false=>
  rw[hn]at hR
  simp[go_sem]
  unfold Za0.b5
  simp[go_sem]
  exact hR _ _ ⟨rfl,Zgf.same h (Chg.refl _ _)⟩
 | true=>
  rw[hn]at hR
  simp[go_sem]
  unfold Za0.b5
  simp[go_sem]
  unfold Za0.b3
  have hfz:=h.fz 7 (by omega)
  simp[go_sem,h.cs,hfz]
  have hF:Fr b (·=7) (fun _=>False) w (w.setCell ⟨b,7,none⟩ (.int .i64 x)):=Fr.one _ _ _ _ _
  have hc7:(w.setCell ⟨b,7,none⟩ (.int .i64 x)).cell? ⟨b,7,none⟩=some (.int .i64 x):=World.cell?_setCell_same _ _ _ h.cs
  generalize w.setCell ⟨b,7,none⟩ (.int .i64 x)=w1 at hF hc7 ⊢
  have neA:∀k,k≠1→∀i,T i=k→¬(i=b∨False):=fun k h1' i hi he=>by
   rcases he with he|he
   ·rw[he,h.tag]at hi;omega
   ·exact he
  refine hR _ _ ⟨rfl,⟨T,V,⟨h.tag,fun i hi=>Nat.lt_of_lt_of_le (h.lt i hi) hF.chg.size,?_,?_,?_,?_,?_,hc7,?_,?_,?_,?_,h.rlen,?_,⟨h.ok.syms,h.ok.tnam,h.ok.nnam,h.ok.tnd,h.ok.nnd,h.ok.lev,h.ok.grd,h.ok.prods⟩⟩,fun _ _=>rfl⟩,?_⟩
  ·exact h.terms.fr hF (by omega) (by omega) (neA 2 (by omega)) (neA 3 (by omega)) fun _ _=>rfl
  ·exact h.nons.fr hF (by omega) (by omega) (neA 4 (by omega)) (neA 5 (by omega)) fun _ _=>rfl
  ·exact (hF.cell 4 (by omega)).trans h.cg
  ·exact (hF.cell 5 (by omega)).trans h.cl
  ·exact (hF.cell 6 (by omega)).trans h.cr
  ·exact fun j hj=>(hF.frz j).trans (h.fz j hj)
  ·exact h.graded.keep hF.chg (neA 6 (by omega)) fun _ _=>rfl
  ·exact h.levels.keep hF.chg (neA 7 (by omega)) fun _ _=>rfl
  ·exact h.rules.keep hF.chg (neA 8 (by omega)) fun _ _=>rfl
  ·exact fun i r v hr hv=>(h.rights i r v hr hv).keep hF.chg (neA 9 (by omega)) fun _ _=>rfl
  ·exact hF.chg.mono fun i _ he=>by
    rcases he with he|he
    ·rw[he,h.tag];omega
    ·exact he.elim
end Go.Proofs.YtckbgeedlobfaaaGreatDoor
namespace Go.Proofs.YtckbgeedlobfaaaGreatDoor
open Go.Px Go.Px.Scan Go.RowKit
attribute [-go_sem] Builtin.append_
theorem Zqq {w:World}{B:Nat}{v:Value}{l:List Int}(h:(Zo rInt).at1 w B v l){g:FuncId}{first cap:Array Value}{p:Int→Bool}
  (hp:∀x∈l,Zz x→Ct Tryz.prog g (first.toList++[Value.int .i64 x]++cap.toList).toArray w fun v w'=>v = .bool (p x)∧w=w') :
  Ct Tryz.prog Zab.id #[v,.func (.func g) first cap] w fun r w'=>(∃i,r = .int .i64 i∧(0≤i↔l.any p=true)∧i≤l.length)∧w=w':=by
 refine Zab.ct fun R hR=>?_
 obtain ⟨A,c,rfl,hl,hm,_⟩:=Zay h
 unfold Zab.run Zab.b1 Zab.b4
 simp[go_sem]
 refine Zab.l6_intro _ _ _ _ _ _ (fun x w1=>∃k:Nat,x = .int .i64 k∧k≤l.length∧(l.take k).any p=false∧w=w1) (fun x _=>l.length-iv x) ⟨0,rfl,by omega,by simp,rfl⟩ ?_
 rintro _ _ ⟨k,rfl,hk,hall,rfl⟩ C hC
 unfold Zab.b7
 simp[go_sem]
 refine Za (fun h2=>?_) (fun h2=>?_)<;>simp at h2
 ·obtain ⟨b1,o1,rfl,hb1,hc1,hr1⟩:=Go.Px.ints_at h h2
  have wk:=Zau h2 (Nat.le_trans hl hm)
  simp[go_sem,h2,hc1]
  refine Zi4 (hp l[k] (List.getElem_mem h2) hr1) ?_
  rintro _ _ ⟨rfl,rfl⟩
  refine Za (fun h3=>?_) (fun h3=>?_)
  ·refine hR _ _ ⟨⟨k,rfl,?_,by omega⟩,rfl⟩
   refine ⟨fun _=>List.any_eq_true.2 ⟨_,List.getElem_mem h2,h3⟩,fun _=>by omega⟩
  ·simp[go_sem,wk]
   refine hC _ _ ⟨k+1,by simp,by omega,?_,rfl⟩ (by simp[iv];omega)
   rw[List.take_succ_eq_append_getElem h2,List.any_append,hall]
   simp[h3]
 ·have hka:k=l.length:=by omega
  rw[hka,List.take_length]at hall
  unfold Zab.b3
  exact hR _ _ ⟨⟨-1,rfl,by rw[hall];simp,by omega⟩,rfl⟩
theorem Zh0 {w:World}{B:Nat}{v:Value}{l:List Int}(h:(Zo rInt).at1 w B v l){g:FuncId}{first cap:Array Value}{p:Int→Bool}
  (hp:∀x∈l,Zz x→Ct Tryz.prog g (first.toList++[Value.int .i64 x]++cap.toList).toArray w fun v w'=>v = .bool (p x)∧w=w') :
  Ct Tryz.prog Zal.id #[v,.func (.func g) first cap] w fun r w'=>r = .bool (l.any p)∧w=w':=by
 refine Zal.ct fun R hR=>?_
 unfold Zal.run Zal.b1
 refine Zf (Zqq h hp) ?_
 rintro _ _ ⟨⟨i,rfl,hi,_⟩,rfl⟩
 simp[go_sem]
 refine hR _ _ ⟨?_,rfl⟩
 congr 1
 cases ha:l.any p
 ·rw[ha]at hi;simpa using hi
 ·rw[ha]at hi;simpa using hi
theorem Zzk (l:List Int):l.flatMap (fun x=>[Value.int .i64 x])=l.map (.int .i64 ·):=by
 induction l with
 | nil=>rfl
 | cons x r ih=>simp[ih]
theorem ZZ0:(Tryz.prog.info? 3).map (fun i=>(i.zero,i.size,i.bytes))=some (some (.int .i64 0),1,8):=by kernel_rfl
theorem Zrr (t:TypeId){e:TypeId}(ht:Tryz.prog.underlying t=some (.slice e))(A:Option Addr)(n c:Nat)(w:World):(binOp BinOp.eql t (.slice A n c) (.slice none 0 0)).run Tryz.prog w = .ok (.bool A.isNone) w:=by
 simp only[binOp,Op.equal]
 rw[show Op.maxDepth=9999+1 from rfl]
 unfold Op.equalIn
 cases A<;>simp[run_underlying ht,go_sem]
set_option maxRecDepth 100000 in
theorem Zs9 {w:World}{B:Nat}{v:Value}{l:List Int}(h:(Zo rInt).at1 w B v l)(hB:B≤w.heap.size)(hn:l.length*8≤Zr) :
  Ct Tryz.prog Zbg.id #[v] w fun v' w'=>w'.ownsRow w.heap.size 3 1 v' l.length (l.map (.int .i64 ·))∧Chg (fun _=>False) w w':=by
 refine Zbg.ct fun R hR=>?_
 obtain ⟨A,c,rfl,hl,hm,_⟩:=Zay h
 unfold Zbg.run Zbg.b1
 simp[go_sem]
 rw[Zrr 24 Tryz.underlying24]
 cases A with
 | none=>
  have hz:l.length=0:=by
   rcases Nat.eq_zero_or_pos l.length with h0|h0
   ·exact h0
   ·obtain ⟨b,o,e,_⟩:=Go.Px.ints_at h h0
    cases e
  have hl0:l=[]:=List.eq_nil_of_length_eq_zero hz
  subst hl0
  simp[go_sem]
  exact hR _ _ ⟨⟨by simp,Or.inl ⟨rfl,rfl⟩⟩,Chg.refl _ _⟩
 | some a=>
  simp[go_sem]
  have hc1:Chg (fun _=>False) w (w.alloc (.cells #[] 3)):=(Chg.refl _ _).alloc _
  have hx:(w.alloc (.cells #[] 3)).heap[w.heap.size]?=some (.cells #[] 3 (0,0)):=heap_alloc_new w _
  have hs1:(w.alloc (.cells #[] 3)).heap.size=w.heap.size+1:=by simp
  obtain ⟨i0,hi,hz0,hz1,hz2⟩:=info_parts ZZ0
  generalize w.alloc (.cells #[] 3)=w1 at hc1 hx hs1 ⊢
  have hown:w1.ownsRow w.heap.size 3 1 (.slice (some ⟨w.heap.size,0,none⟩) 0 0) 0 []:=⟨by simp,Or.inr ⟨_,0,#[],rfl,Nat.le_refl _,hx,by omega,by simp[maxLen],by simp,by simp⟩⟩
  have hnews:∀j u,(l.map (Value.int .i64 ·))[j]?=some u→w1.cell? (a.add j)=some u:=by
   intro j u hu
   have hj:j<l.length:=by have:=(List.getElem?_eq_some_iff.1 hu).1;simpa using this
   obtain ⟨b1,o1,e,hb1,hc,hr1⟩:=Go.Px.ints_at h hj
   injection e with e
   subst e
   have:u = .int .i64 l[j]:=by have:=(List.getElem?_eq_some_iff.1 hu).2;simpa using this.symm
   subst this
   rw[Addr.add_lit]
   exact (hc1.cell (p:=⟨b1,o1+j,none⟩) (by show b1<_;omega) id).trans hc
  obtain ⟨v',w',hrun,hown',hgr,_,hb⟩:=run_append_own_at (P:=Tryz.prog) w1 w.heap.size 24 24 3 i0 _ 1 8 Tryz.underlying24 hi hz0 hz1 hz2 rfl (by omega) _ 0 [] hown a l.length c (l.map (.int .i64 ·)) (by simp) hnews (by
    intro u hu
    obtain ⟨x,_,rfl⟩:=List.mem_map.1 hu
    rfl) (by omega) (by unfold Zr at hn;omega) (by omega)
  rw[hrun,Zb9]
  simp only[Nat.zero_add,List.nil_append]at hown'
  have hg:Chg (fun i=>i=w.heap.size) w1 w':=Zgd hgr fun k hk=>by
   simp[Value.ownBlock]at hk
   exact hk.symm
  exact hR _ _ ⟨hown',hc1.trans' hg fun i hi e=>by omega⟩
end Go.Proofs.YtckbgeedlobfaaaGreatDoor
namespace Go.Proofs.YtckbgeedlobfaaaGreatDoor
open Go.Px Go.Px.Scan Go.RowKit
theorem Row.retag {w:World}{T T':Nat→Nat}{tag e size:Nat}{v:Value}{n:Nat}{xs:List Value}(h:Row w T tag e size v n xs)(ht:tag≠0)(hT:∀i,T i≠0→T' i=T i):Row w T' tag e size v n xs :=
 ⟨h.1,fun i hi=>by rw[hT i (by rw[h.2 i hi];exact ht)];exact h.2 i hi⟩
theorem Nm.retag {w:World}{T T':Nat→Nat}{b o tx tm:Nat}{v m:Value}{l:List ByteArray}(h:Nm w T b o tx tm v m l)(hx:tx≠0)(hm:tm≠0)(hT:∀i,T i≠0→T' i=T i):Nm w T' b o tx tm v m l :=
 ⟨h.c0,h.c1,h.f0,h.f1,h.row.retag hx hT,h.map,fun i hi=>by rw[hT i (by rw[h.tag i hi];exact hm)];exact h.tag i hi⟩
theorem Zh7.retag {w:World}{T T':Nat→Nat}{v:Value}{l:List Int}(h:Zh7 w T v l)(hT:∀i,T i≠0→T' i=T i):Zh7 w T' v l :=
 ⟨h.rd,fun hl i hi=>by have:=h.tg hl i hi;rw[hT i (by omega)];exact this⟩
theorem Bld.retag {w:World}{T T':Nat→Nat}{b:Nat}{V:BV}{S:BS}(h:Bld w T b V S)(hT:∀i,T i≠0→T' i=T i)(hlt:∀i,T' i≠0→i<w.heap.size):Bld w T' b V S :=
 ⟨by rw[hT b (by rw[h.tag];omega)];exact h.tag,hlt,h.terms.retag (by omega) (by omega) hT,h.nons.retag (by omega) (by omega) hT,h.cg,h.cl,h.cr,h.cs,h.fz,h.graded.retag (by omega) hT,h.levels.retag (by omega) hT,h.rules.retag (by omega) hT,h.rlen,
  fun i r v hr hv=>(h.rights i r v hr hv).retag hT,h.ok⟩
end Go.Proofs.YtckbgeedlobfaaaGreatDoor
namespace Go.Proofs.YtckbgeedlobfaaaGreatDoor
open Go.Px Go.Px.Scan Go.RowKit
attribute [-go_sem] Builtin.append_
def badH (S:BS)(h:Int):Bool := !isT S h && !isN S h
def Zar (S:BS)(h:Int):Int:=((S.terms[(h-1).toNat]?).map (·.2)).getD 0
def Zfk (S:BS)(right:List Int):Int:=right.foldl (fun a h=>if 0<h then Zar S h else a) 0
def Zez (S:BS)(left:Int)(right:List Int):Int×Int×BS :=
 if isN S left=false∨right.any (badH S)=true then (0,1,S)
 else if 96≤S.rules.length then (0,11,S)
 else (S.rules.length,0,{S with rules:=S.rules++[(left,right,Zfk S right)] })
theorem ZZ125 {w:World}{T:Nat→Nat}{b p:Nat}{V:BV}{S:BS}(h:Bld w T b V S)(hp:w.cell? ⟨p,0,none⟩=some (.pointer (some ⟨b,0,none⟩))){x:Int}(hx:Zz x) :
  Ct Tryz.prog Zb6.id #[.int .i64 x,.pointer (some ⟨p,0,none⟩)] w fun v w'=>v = .bool (badH S x)∧w=w':=by
 refine Zb6.ct fun R hR=>?_
 unfold Zb6.run Zb6.b1
 simp[go_sem,hp]
 refine Zf (Zif h hx) ?_
 rintro _ _ ⟨rfl,rfl⟩
 simp[go_sem]
 cases ht:isT S x with
 | true=>
  simp[go_sem]
  exact hR _ _ ⟨by unfold badH;rw[ht];rfl,rfl⟩
 | false=>
  simp[go_sem,hp]
  refine Zf (Zgs h hx) ?_
  rintro _ _ ⟨rfl,rfl⟩
  simp[go_sem]
  exact hR _ _ ⟨by unfold badH;rw[ht];rfl,rfl⟩
theorem ZZ16:(Tryz.prog.info? 130).map (fun i=>(i.zero,i.size,i.bytes))=some (some (.agg #[.int .i64 0,.slice none 0 0,.int .i64 0]),3,40):=by kernel_rfl
set_option maxRecDepth 100000 in
theorem ZZ155 {R:Ending→World→Prop}{w w0:World}{T:Nat→Nat}{b p q:Nat}{V:BV}{S:BS}(h:Bld w T b V S)(hp:w.cell? ⟨p,0,none⟩=some (.pointer (some ⟨b,0,none⟩)))(hTp:T p=0)
  {left lev:Int} {right:List Int} {vr:Value} (hl:S.rules.length<96) (hc0:Chg (fun _=>False) w0 w) (hw0:∀i,T i≠0→i<w0.heap.size)
  (k0:w.cell? ⟨q,0,none⟩=some (.int .i64 left)) (k1:w.cell? ⟨q,1,none⟩=some vr) (k2:w.cell? ⟨q,2,none⟩=some (.int .i64 lev)) (hTq:T q=0)
  (hr:w.ownsRow w0.heap.size 3 1 vr right.length (right.map (.int .i64 ·))) (hri:∀x∈right,Zz x)
  (hR:∀w',Zgf w0 T b {S with rules:=S.rules++[(left,right,lev)] } w'→R (.returned (.tuple #[.int .i64 S.rules.length,.int .i64 0])) w'):Zs.b5 R (.pointer (some ⟨p,0,none⟩)) (.pointer (some ⟨q,0,none⟩)) w:=by
 have hcr:=h.cr
 obtain ⟨a,c,hv⟩:=Znc h.rules
 rw[hv]at hcr
 obtain ⟨i0,hi,hz0,hz1,hz2⟩:=info_parts ZZ16
 have hbw:b<w.heap.size:=h.lt b (by rw[h.tag];omega)
 have hpw:p<w.heap.size:=World.block_lt_of_cell? _ _ hp
 have hpb:p≠b:=fun e=>by rw[e,h.tag]at hTp;omega
 have hc2:Chg (fun _=>False) w (w.alloc (.cells #[.int .i64 left,vr,.int .i64 lev] 130)):=(Chg.refl _ _).alloc _
 have hcr1:=hc2.at hcr id
 have hp1:=hc2.at hp id
 unfold Zs.b5
 simp[go_sem,hp,hcr,k0,k1,k2,hp1,hcr1]
 have hc2':Chg (fun _=>False) w (w.alloc (.cells #[.int .i64 left,vr,.int .i64 lev] 130)).drew:=hc2.drew
 have hn:∀j u,([.int .i64 left,vr,.int .i64 lev]:List Value)[j]?=some u→(w.alloc (.cells #[.int .i64 left,vr,.int .i64 lev] 130)).drew.cell? ((⟨w.heap.size,0,none⟩:Addr).add j)=some u:=by
  intro j u hj
  have:=Ze9 w [.int .i64 left,vr,.int .i64 lev] 130 rfl j u hj
  simpa using this
 have hs2:(w.alloc (.cells #[.int .i64 left,vr,.int .i64 lev] 130)).drew.heap.size=w.heap.size+1:=by simp
 generalize (w.alloc (.cells #[.int .i64 left,vr,.int .i64 lev] 130)).drew=w2 at hc2' hn hs2 ⊢
 have h2:=h.keep hc2' (fun _ _=>id)
 have hp2:=hc2'.at hp id
 have hr2:=Zc7 hr hc2' (fun _ _=>id)
 have hrow:=h2.rules.1
 rw[hv]at hrow
 have hv1:vr.oneCell'=true:=by
  obtain ⟨a',c',e⟩:=Zkd hr
  rw[e];rfl
 refine Zi5 113 113 130 Tryz.underlying113 hi hz0 hz1 hz2 rfl (by omega) hrow rfl hn ?_ (by unfold maxLen;omega) (by unfold Zr;omega) (Nat.zero_le _) ?_
 ·intro u hu
  simp at hu
  rcases hu with rfl|rfl|rfl
  ·rfl
  ·exact hv1
  ·rfl
 intro g c3 w3 ho3 hg3 hgb
 have hgt:(Value.slice a S.rules.length c).ownBlock=some g→T g=8:=fun e=>h2.rules.2 g (by rw[hv];exact e)
 have hc3:Chg (fun i=>T i=8) w2 w3:=Zgd hg3 fun k hk=>h2.rules.2 k (by rw[hv];exact hk)
 have hs3:=hc3.size
 have htb:T b≠8:=by rw[h.tag];omega
 have htp:T p≠8:=by rw[hTp];omega
 have hgb':g≠b:=by
  rcases hgb with hgb|hgb
  ·intro e;exact htb (by rw[←e];exact hgt hgb)
  ·omega
 have hb2:b<w2.heap.size:=by omega
 have k6:=hc3.at h2.cr htb
 have kf6:=(hc3.frozen (p:=⟨b,6,none⟩) hb2 htb).trans (h2.fz 6 (by omega))
 have hp3:=hc3.at hp2 htp
 have hp4:(w3.setCell ⟨b,6,none⟩ (.slice (some ⟨g,0,none⟩) (S.rules.length+1) c3)).cell? ⟨p,0,none⟩=some (.pointer (some ⟨b,0,none⟩)):=(World.cell?_setCell_other _ _ _ _ (by simp[hpb])).trans hp3
 have kc6:(w3.setCell ⟨b,6,none⟩ (.slice (some ⟨g,0,none⟩) (S.rules.length+1) c3)).cell? ⟨b,6,none⟩=some (.slice (some ⟨g,0,none⟩) (S.rules.length+1) c3):=World.cell?_setCell_same _ _ _ k6
 have hF6:Fr b (fun j=>j=6) (fun i=>T i=8) w2 (w3.setCell ⟨b,6,none⟩ (.slice (some ⟨g,0,none⟩) (S.rules.length+1) c3)) :=
  (Fr.of hc3 hb2 htb (fun i _ h=>h)).trans (Fr.one _ _ _ _ _)
 have hc4:Chg (·=b) w3 (w3.setCell ⟨b,6,none⟩ (.slice (some ⟨g,0,none⟩) (S.rules.length+1) c3)):=(Chg.refl (·=b) w3).setCell (p:=⟨b,6,none⟩) (Or.inl rfl) _
 have ho4:=Zc7 ho3 hc4 (fun i hi he=>by injection hi with hi;exact hgb' (hi.trans he))
 have wsub:IntKind.i64.wrap (S.rules.length:Int)=S.rules.length:=IntWalk.i64_in _ (by omega)
 simp[go_sem,k6,kf6,hp3,hp4,kc6,wsub]
 have hs4:(w3.setCell ⟨b,6,none⟩ (.slice (some ⟨g,0,none⟩) (S.rules.length+1) c3)).heap.size=w3.heap.size:=by simp
 have hg4:=(Zcf ho4 (k:=g) rfl).2
 have hb4:(w3.setCell ⟨b,6,none⟩ (.slice (some ⟨g,0,none⟩) (S.rules.length+1) c3)).frozen?=w3.frozen?:=by funext x;exact World.frozen?_setCell _ _ _ _
 generalize w3.setCell ⟨b,6,none⟩ (.slice (some ⟨g,0,none⟩) (S.rules.length+1) c3)=w4 at hF6 kc6 hs4 ho4 hg4 ⊢
 have hw0w:=hc0.size
 have hvr:∀i,vr.ownBlock=some i→w0.heap.size≤i∧i<w.heap.size:=fun i e=>Zcf hr e
 have hT0:∀i,T i≠0→(if vr.ownBlock=some i then 9 else T i)=T i:=fun i hi=>by
  have:=hw0 i hi
  have hnv:vr.ownBlock≠some i:=fun e=>by have:=(hvr i e).1;omega
  rw[if_neg hnv]
 have h2':Bld w2 (fun i=>if vr.ownBlock=some i then 9 else T i) b V S:=h2.retag hT0 fun i hi=>by
  by_cases e:vr.ownBlock=some i
  ·have:=(hvr i e).2;omega
  ·rw[if_neg e]at hi;exact h2.lt i hi
 generalize hTa:(fun i=>if vr.ownBlock=some i then 9 else T i)=Ta at h2'
 have hTai:∀i,Ta i=if vr.ownBlock=some i then 9 else T i:=fun i=>by rw[←hTa]
 have hT8:∀i,Ta i=8↔T i=8:=fun i=>by
  rw[hTai]
  by_cases e:vr.ownBlock=some i
  ·rw[if_pos e]
   have:T i=0:=Classical.byContradiction fun h0=>by have:=hw0 i h0;have:=(hvr i e).1;omega
   omega
  ·rw[if_neg e]
 have hF6':Fr b (fun j=>j=6) (fun i=>Ta i=8) w2 w4:=hF6.mono (fun _ h=>h) fun i h=>(hT8 i).2 h
 have hg8:g<w2.heap.size→Ta g=8:=fun hg=>by
  rcases hgb with hgb|hgb
  ·exact (hT8 g).2 (hgt hgb)
  ·omega
 have hT1:∀i,i<w2.heap.size→(fun i=>if i=g then 8 else Ta i) i=Ta i:=by
  intro i hi
  by_cases e:i=g
  ·subst e;simp[hg8 hi]
  ·simp[e]
 generalize hT1d:(fun i=>if i=g then 8 else Ta i)=T1 at hT1
 have hT1g:∀i,T1 i=if i=g then 8 else Ta i:=fun i=>by rw[←hT1d]
 have hab:Ta b=1:=h2'.tag
 have ne:∀k,k≠1→k≠8→∀i,Ta i=k→¬(i=b∨Ta i=8):=fun k h1' h6 i hi he=>by
  rcases he with he|he
  ·rw[he,hab]at hi;omega
  ·omega
 have hvg:vr.ownBlock≠some g:=fun e=>by
  have h9:Ta g=9:=by rw[hTai,if_pos e]
  rcases hgb with hgb|hgb
  ·have:=(hT8 g).2 (hgt hgb);omega
  ·have:=(hvr g e).2;omega
 refine hR _ ⟨⟨T1,{V with vr := .slice (some ⟨g,0,none⟩) (S.rules.length+1) c3,rs:=V.rs++[vr] },⟨?_,?_,?_,?_,?_,?_,kc6,?_,?_,?_,?_,?_,?_,?_,?_⟩,?_⟩,?_⟩
 ·rw[hT1 b hb2];exact hab
 ·intro i hi
  by_cases e:i=g
  ·rw[e];exact hg4
  ·rw[hT1g,if_neg e]at hi
   have:=h2'.lt i hi
   omega
 ·exact h2'.terms.fr hF6' (by omega) (by omega) (ne 2 (by omega) (by omega)) (ne 3 (by omega) (by omega)) hT1
 ·exact h2'.nons.fr hF6' (by omega) (by omega) (ne 4 (by omega) (by omega)) (ne 5 (by omega) (by omega)) hT1
 ·exact (hF6'.cell 4 (by omega)).trans h2'.cg
 ·exact (hF6'.cell 5 (by omega)).trans h2'.cl
 ·exact (hF6'.cell 7 (by omega)).trans h2'.cs
 ·exact fun j hj=>(hF6'.frz j).trans (h2'.fz j hj)
 ·exact h2'.graded.keep hF6'.chg (ne 6 (by omega) (by omega)) hT1
 ·exact h2'.levels.keep hF6'.chg (ne 7 (by omega) (by omega)) hT1
 ·refine ⟨?_,fun i hi=>by injection hi with hi;rw[hT1g,if_pos hi.symm]⟩
  rw[List.length_append]
  have e:((S.rules++[(left,right,lev)]).zip (V.rs++[vr])).flatMap (fun x=>Zh3 x.1 x.2)=((S.rules.zip V.rs).flatMap fun x=>Zh3 x.1 x.2)++[.int .i64 left,vr,.int .i64 lev]:=by
   rw[List.zip_append h.rlen.symm,List.flatMap_append]
   simp[Zh3]
  rw[e]
  exact ho4
 ·simp[h.rlen]
 ·intro i r v hr' hv'
  by_cases hi:i<S.rules.length
  ·rw[List.getElem?_append_left hi]at hr'
   rw[List.getElem?_append_left (by rw[h.rlen];exact hi)]at hv'
   exact (h2'.rights i r v hr' hv').keep hF6'.chg (ne 9 (by omega) (by omega)) hT1
  ·have hi':i=S.rules.length:=by
    have:=(List.getElem?_eq_some_iff.1 hr').1
    simp at this
    omega
   subst hi'
   simp at hr'
   rw[←h.rlen]at hv'
   simp at hv'
   subst hr'
   subst hv'
   have hro:w2.ownsRow w0.heap.size 3 rInt.size vr right.length (right.flatMap fun x=>[Value.int .i64 x]):=by rw[Zzk];exact hr2
   refine Zh7.keep (T:=Ta) ⟨Zdh hro (fun _ _=>rfl) ?_ (Nat.le_refl _),fun _ i hi=>by rw[hTai,if_pos hi]⟩ hF6'.chg (ne 9 (by omega) (by omega)) hT1
   intro x hx
   exact ⟨rfl,hri x hx⟩
 ·refine ⟨h.ok.syms,h.ok.tnam,h.ok.nnam,h.ok.tnd,h.ok.nnd,h.ok.lev,h.ok.grd,?_⟩
  simp;omega
 ·intro i hi
  rw[hT1 i (by omega),hTai]
  refine if_neg fun e=>?_
  have:=(hvr i e).1;omega
 ·refine (((hc0.trans hc2').mono fun _ _ h=>h.elim).trans' hF6.chg fun i hi he=>?_)
  rcases he with he|he
  ·rw[he,h.tag];omega
  ·omega
end Go.Proofs.YtckbgeedlobfaaaGreatDoor
namespace Go.Proofs.YtckbgeedlobfaaaGreatDoor
open Go.Px Go.Px.Scan Go.RowKit
attribute [-go_sem] Builtin.append_
theorem ZZ330 {w:World}{base e size:Nat}{v:Value}{n:Nat}{xs:List Value}(h:w.ownsRow base e size v n xs){j:Nat}(hj:j<xs.length) :
  ∃g cap,v = .slice (some ⟨g,0,none⟩) n cap∧w.cell? ⟨g,j,none⟩=some xs[j]∧w.frozen? ⟨g,j,none⟩=false∧base≤g:=by
 rcases h.2 with ⟨h1,h2⟩|⟨g,cap,cur,hv,hb,hg,hn,hm,hs,ht⟩
 ·have:=h.1;rw[h2]at this;omega
 ·refine ⟨g,cap,hv,?_,?_,hb⟩
  ·have h3:cur.toList[j]?=some xs[j]:=by
    have h4:(cur.toList.take (n*size))[j]?=some xs[j]:=by rw[ht];exact List.getElem?_eq_getElem hj
    rw[List.getElem?_take]at h4
    split at h4
    ·exact h4
    ·cases h4
   simp[World.cell?,hg,←h3]
  ·simp[World.frozen?,hg]
theorem Zwy (S:BS)(l:List Int)(h:Int):Zfk S (l++[h])=if 0<h then Zar S h else Zfk S l:=by
 unfold Zfk;rw[List.foldl_append];rfl
theorem Zwt {S:BS}(ok:BSok S)(h:Int):0≤Zar S h∧Zar S h≤S.levels.length:=by
 unfold Zar
 cases e:S.terms[(h-1).toNat]? with
 | none=>simp
 | some t=>exact ok.grd t (List.mem_of_getElem? e)
theorem ZZ160 {S:BS}(ok:BSok S)(l:List Int):0≤Zfk S l∧Zfk S l≤S.levels.length:=by
 suffices ∀(l:List Int) (a:Int),0≤a∧a≤S.levels.length→0≤l.foldl (fun a h=>if 0<h then Zar S h else a) a∧l.foldl (fun a h=>if 0<h then Zar S h else a) a≤S.levels.length from this l 0 (by omega)
 intro l
 induction l with
 | nil=>exact fun a ha=>ha
 | cons x r ih=>
  intro a ha
  refine ih _ ?_
  show 0≤(if 0<x then Zar S x else a)∧(if 0<x then Zar S x else a)≤S.levels.length
  by_cases hx:0<x
  ·rw[if_pos hx];exact Zwt ok x
  ·rw[if_neg hx];exact ha
theorem ZZ75 {w:World}{T:Nat→Nat}{b:Nat}{V:BV}{S:BS}(h:Bld w T b V S){x:Int}(hx:isT S x=true) :
  ∃g cap k,V.vg = .slice (some ⟨g,0,none⟩) S.terms.length cap∧k<S.terms.length∧x=(k:Int)+1∧w.cell? ⟨g,k,none⟩=some (.int .i64 (Zar S x))∧w.frozen? ⟨g,k,none⟩=false∧T g=6:=by
 have hx':1≤x∧x≤S.terms.length:=by simpa[isT]using hx
 have hk:(x-1).toNat<S.terms.length:=by omega
 obtain ⟨g,cap,hv,hc,hf,_⟩:=ZZ330 h.graded.1 (j:=(x-1).toNat) (by simpa using hk)
 refine ⟨g,cap,(x-1).toNat,hv,hk,by omega,?_,hf,h.graded.2 g (by rw[hv];rfl)⟩
 rw[hc]
 unfold Zar
 rw[List.getElem?_eq_getElem hk]
 simp
set_option maxRecDepth 100000 in
theorem ZZ144 {R:Ending→World→Prop}{w w0:World}{T:Nat→Nat}{b p q B:Nat}{V:BV}{S:BS}(h:Bld w T b V S)(hp:w.cell? ⟨p,0,none⟩=some (.pointer (some ⟨b,0,none⟩)))(hTp:T p=0)(hpq:p≠q)
  {left:Int} {right:List Int} {u vr:Value} (hu:(Zo rInt).at1 w B u right) (hB:B≤w0.heap.size) (hsy:∀x∈right,badH S x=false) (hl:S.rules.length<96) (hc0:Chg (fun _=>False) w0 w) (hw0:∀i,T i≠0→i<w0.heap.size)
  (hq0:w0.heap.size≤q) (k0:w.cell? ⟨q,0,none⟩=some (.int .i64 left)) (k1:w.cell? ⟨q,1,none⟩=some vr) (k2:w.cell? ⟨q,2,none⟩=some (.int .i64 0)) (kf:w.frozen? ⟨q,2,none⟩=false) (hTq:T q=0)
  (hr:w.ownsRow w0.heap.size 3 1 vr right.length (right.map (.int .i64 ·))) (hrq:vr.ownBlock≠some q)
  (hR:∀w',Zgf w0 T b {S with rules:=S.rules++[(left,right,Zfk S right)] } w'→R (.returned (.tuple #[.int .i64 S.rules.length,.int .i64 0])) w') :
  Zs.b6 R u (.pointer (some ⟨p,0,none⟩)) (.pointer (some ⟨q,0,none⟩)) w:=by
 obtain ⟨A,c,rfl,hlc,hm,_⟩:=Zay hu
 unfold Zs.b6
 simp[go_sem]
 refine Zs.l8_intro _ _ _ _ _ _ _ (fun x w1=>∃k:Nat,x = .int .i64 k∧k≤right.length∧Fr q (·=2) (fun _=>False) w w1∧w1.cell? ⟨q,2,none⟩=some (.int .i64 (Zfk S (right.take k)))) (fun x _=>right.length-iv x) ⟨0,rfl,by omega,Fr.refl _,by simpa[Zfk]using k2⟩ ?_
 rintro _ w1 ⟨k,rfl,hk,hF,k2'⟩ C hC
 have hqc:∀i,T i≠0→¬(i=q∨False):=fun i hi he=>by
  rcases he with he|he
  ·rw[he]at hi;exact hi hTq
  ·exact he
 have h1:=h.keep hF.chg hqc
 have hp1:=hF.chg.at hp (fun he=>by rcases he with he | he;exact hpq he;exact he)
 have hu1:(Zo rInt).at1 w1 B _ right:=Rep.below hu (hF.chg.below (by have:=hc0.size;omega) fun i hi he=>by rcases he with he | he;omega;exact he)
 have hq2:w1.frozen? ⟨q,2,none⟩=false:=(hF.frz 2).trans kf
 unfold Zs.b9
 simp[go_sem]
 refine Za (fun h2=>?_) (fun h2=>?_)<;>simp at h2
 ·obtain ⟨b1,o1,rfl,hb1,hc1,hr1⟩:=Go.Px.ints_at hu1 h2
  have wk:=Zau h2 (Nat.le_trans hlc hm)
  have htk:Zfk S (right.take (k+1))=if 0<right[k] then Zar S right[k] else Zfk S (right.take k):=by
   rw[List.take_succ_eq_append_getElem h2,Zwy]
  simp[go_sem,h2,hc1]
  refine Za (fun h3=>?_) (fun h3=>?_)<;>simp at h3
  ·rw[if_pos h3]at htk
   have hT:isT S right[k]=true:=by
    have h4:=hsy _ (List.getElem_mem h2)
    unfold badH at h4
    cases hT:isT S right[k]with
    | true=>rfl
    | false=>
     have hN:isN S right[k]=false:=by unfold isN;simp;intro;omega
     rw[hT,hN]at h4
     cases h4
   obtain ⟨g,cap,j,hvg,hj,hx,hcg,hfg,htg⟩:=ZZ75 h1 hT
   have hcv:=h1.cg
   rw[hvg]at hcv
   have wx:IntKind.i64.wrap (right[k]-1)=(j:Int):=by
    rw[show right[k]-1=(j:Int) by omega]
    exact IntWalk.i64_in _ (by have:=h.ok.syms;omega)
   simp[go_sem,hp1,hcv,wx,hj,hcg,k2',hq2]
   unfold Zs.b10
   simp[go_sem,wk]
   refine hC _ _ ⟨k+1,by simp,by omega,hF.trans (Fr.one _ _ _ _ _),?_⟩ (by simp[iv];omega)
   rw[htk]
   exact World.cell?_setCell_same _ _ _ k2'
  ·rw[if_neg (by omega)]at htk
   unfold Zs.b10
   simp[go_sem,wk]
   refine hC _ _ ⟨k+1,by simp,by omega,hF,?_⟩ (by simp[iv];omega)
   rw[htk];exact k2'
 ·have hka:k=right.length:=by omega
  rw[hka,List.take_length]at k2'
  have hcq:Chg (fun _=>False) w0 w1:=hc0.trans' hF.chg fun i hi he=>by rcases he with he | he;omega;exact he
  exact ZZ155 h1 hp1 hTp hl hcq hw0 ((hF.cell 0 (by omega)).trans k0) ((hF.cell 1 (by omega)).trans k1) k2' hTq (Zc7 hr hF.chg (fun i hi he=>by
   rcases he with he|he
   ·rw[he]at hi;exact hrq hi
   ·exact he)) (fun x hx=>by
    obtain ⟨i,hi,rfl⟩:=List.getElem_of_mem hx
    obtain ⟨_,_,_,_,_,hr1⟩:=Go.Px.ints_at hu1 hi
    exact hr1) hR
end Go.Proofs.YtckbgeedlobfaaaGreatDoor
namespace Go.Proofs.YtckbgeedlobfaaaGreatDoor
open Go.Px Go.Px.Scan Go.RowKit
attribute [-go_sem] Builtin.append_
theorem any_false {l:List Int}{p:Int→Bool}(h:l.any p=false):∀x∈l,p x=false:=by
 intro x hx
 cases e:p x with
 | false=>rfl
 | true=>rw[List.any_eq_true.2 ⟨x,hx,e⟩]at h;cases h
set_option maxRecDepth 100000 in
theorem ZZ255 {w:World}{T:Nat→Nat}{b B:Nat}{V:BV}{S:BS}(h:Bld w T b V S){left:Int}(hx:Zz left){u:Value}{right:List Int}(hu:(Zo rInt).at1 w B u right)(hB:B≤w.heap.size)(hn:right.length*8≤Zr) :
  Ct Tryz.prog Zs.id #[.pointer (some ⟨b,0,none⟩),.int .i64 left,u] w fun v w'=>v = .tuple #[.int .i64 (Zez S left right).1,.int .i64 (Zez S left right).2.1]∧Zgf w T b (Zez S left right).2.2 w':=by
 refine Zs.ct fun R hR=>?_
 unfold Zs.run Zs.b1
 simp[go_sem]
 have hc:Chg (fun _=>False) w (w.alloc (.cells #[.pointer (some ⟨b,0,none⟩)] 80)):=(Chg.refl _ _).alloc _
 have hp:=Zck w #[.pointer (some ⟨b,0,none⟩)] 80 rfl 0
 have hs:(w.alloc (.cells #[.pointer (some ⟨b,0,none⟩)] 80)).heap.size=w.heap.size+1:=by simp
 generalize w.alloc (.cells #[.pointer (some ⟨b,0,none⟩)] 80)=w1 at hc hp hs ⊢
 have h1:=h.keep hc (fun _ _=>id)
 simp at hp
 have hTp:T w.heap.size=0:=Classical.byContradiction fun h0=>by have:=h.lt _ h0;omega
 have hu1:(Zo rInt).at1 w1 B u right:=Rep.below hu (hc.below hB fun _ _=>id)
 unfold Zs.b11
 simp[go_sem,hp]
 refine Zf (Zgs h1 hx) ?_
 rintro _ _ ⟨rfl,rfl⟩
 cases hN:isN S left with
 | false=>
  have ha:Zez S left right=(0,1,S):=by unfold Zez;rw[if_pos (Or.inl hN)]
  rw[ha]at hR
  simp[go_sem]
  unfold Zs.b12
  simp[go_sem]
  exact hR _ _ ⟨rfl,Zgf.same h hc⟩
 | true=>
  simp[go_sem]
  refine Zf (Zh0 (p:=badH S) hu1 fun x _ hx=>ZZ125 h1 hp hx) ?_
  rintro _ _ ⟨rfl,rfl⟩
  unfold Zs.b12
  cases hany:right.any (badH S) with
  | true=>
   have ha:Zez S left right=(0,1,S):=by unfold Zez;rw[if_pos (Or.inr hany)]
   rw[ha]at hR
   simp[go_sem]
   exact hR _ _ ⟨rfl,Zgf.same h hc⟩
  | false=>
   simp[go_sem]
   unfold Zs.b3
   obtain ⟨a,c,hv⟩:=Znc h1.rules
   have hcr:=h1.cr
   rw[hv]at hcr
   simp[go_sem,hp,hcr]
   refine Za (fun h2=>?_) (fun h2=>?_)<;>simp at h2
   ·have ha:Zez S left right=(0,11,S):=by unfold Zez;rw[if_neg (by simp[hN,hany]),if_pos (by omega)]
    rw[ha]at hR
    exact hR _ _ ⟨rfl,Zgf.same h hc⟩
   ·have ha:Zez S left right=((S.rules.length:Int),0,{S with rules:=S.rules++[(left,right,Zfk S right)] }):=by unfold Zez;rw[if_neg (by simp[hN,hany]),if_neg (by omega)]
    rw[ha]at hR
    refine Zf (Zs9 hu1 (by omega) hn) ?_
    rintro vr w2 ⟨hown,hc2⟩
    simp[go_sem]
    have hs2:=hc2.size
    have h2':=h1.keep hc2 (fun _ _=>id)
    have hp2:=hc2.at hp id
    have hu2:(Zo rInt).at1 w2 B u right:=Rep.below hu1 (hc2.below (by omega) fun _ _=>id)
    obtain ⟨a',c',hvr⟩:=Zkd hown
    simp[hvr,go_sem]
    rw[←hvr]
    have hc3:Chg (fun _=>False) w2 (w2.alloc (.cells #[.int .i64 left,vr,.int .i64 0] 130)):=(Chg.refl _ _).alloc _
    have hq:=Zck w2 #[.int .i64 left,vr,.int .i64 0] 130 rfl
    have hqf:=Zcs w2 #[.int .i64 left,vr,.int .i64 0] 130 rfl 2
    have hTq:T w2.heap.size=0:=Classical.byContradiction fun h0=>by have:=h.lt _ h0;omega
    have hs3:=hc3.size
    have hqw:vr.ownBlock≠some w2.heap.size:=fun e=>by have:=(Zcf hown e).2;omega
    have hu3:(Zo rInt).at1 (w2.alloc (.cells #[.int .i64 left,vr,.int .i64 0] 130)) B u right:=Rep.below hu2 (hc3.below (by omega) fun _ _=>id)
    refine ZZ144 (w0:=w) (B:=B) (h2'.keep hc3 (fun _ _=>id)) (hc3.at hp2 id) hTp (by omega) hu3 hB (any_false hany) (by omega) ((hc.trans hc2).trans hc3) h.lt (by omega) (hq 0) (hq 1) (hq 2) hqf hTq
     (Zlv (Zc7 hown hc3 fun _ _=>id) (by omega)) hqw fun w' hA=>hR _ _ ⟨rfl,hA⟩
end Go.Proofs.YtckbgeedlobfaaaGreatDoor
namespace Go.Px.Scan
open Go.Px
def Ze5 (t:Nat)(L:List Int)(h:Int):Int:=if h∈L then (t:Int)+(L.idxOf h:Nat) else 0
def symH (t:Nat)(L:List Int)(h:Int):Int:=if h<0 then Ze5 t L h else h
def Zk9 (S:BS)(h:Int):ByteArray:=(S.nons[(-1-h).toNat]?).getD ⟨#[]⟩
structure BSwf (S:BS):Prop where
 left:∀r∈S.rules,-(S.nons.length:Int)≤r.1∧r.1<0
 right:∀r∈S.rules,∀h∈r.2.1,-(S.nons.length:Int)≤h∧h≤S.terms.length∧h≠0
 lev:∀r∈S.rules,0≤r.2.2∧r.2.2≤S.levels.length
 start : -(S.nons.length:Int)≤S.start∧S.start≤0
 sides:∀s∈S.levels,1≤s∧s≤3
 fit:∀r∈S.rules,r.2.1.length*8≤Zr
 used:∀i,i<S.levels.length→∃t∈S.terms,t.2=(i:Int)+1
def pv (S:BS)(r:Int×List Int×Int):Int×List Int×Int:=(Ze5 (S.terms.length+1) (Zj S.rules) r.1,r.2.1.map (symH (S.terms.length+1) (Zj S.rules)),r.2.2)
def Zdr (S:BS):Gr :=
 let L:=Zj S.rules
 let t:=S.terms.length+1
 {terms:=(⟨#[]⟩,0)::S.terms
  nons:=L.map (Zk9 S)
  levels:=S.levels
  start:=Ze5 t L (if S.start=0 then (S.rules.head?.map (·.1)).getD 0 else S.start)
  prods:=S.rules.map (pv S) }
def Zl5 (S:BS):Bool:=decide (S.rules≠[]∧S.nons.length≤(Zj S.rules).length)
theorem Zpr {t:Nat}{L:List Int}{x:Int}(hx:x∉L)(h:Int):Ze5 t (L++[x]) h=if h=x then ((t+L.length:Nat):Int) else Ze5 t L h:=by
 unfold Ze5
 by_cases e:h=x
 ·subst e
  rw[if_pos (by simp),if_pos rfl,List.idxOf_append,if_neg hx]
  simp
 ·rw[if_neg e]
  by_cases hm:h∈L
  ·rw[if_pos (by simp[hm]),if_pos hm,List.idxOf_append,if_pos hm]
  ·rw[if_neg (by simp[hm,e]),if_neg hm]
theorem Zq8 {t:Nat}(ht:0<t){L:List Int}{h:Int}:Ze5 t L h=0↔h∉L:=by
 unfold Ze5
 split
 ·rename_i hm;constructor
  ·intro e;omega
  ·intro e;exact absurd hm e
 ·rename_i hm;simp[hm]
theorem Zvk {t:Nat}{L:List Int}{h:Int}:0≤Ze5 t L h∧Ze5 t L h≤t+L.length:=by
 unfold Ze5
 split
 ·rename_i hm
  have:=List.idxOf_lt_length_of_mem hm
  omega
 ·omega
theorem Ze4 {l:List (Int×List Int×Int)}{n:Nat}(h:∀r∈l,-(n:Int)≤r.1∧r.1<0):(Zj l).length≤n:=by
 have h1:=Zhx (l:=Zj l) (m:=(List.range n).map fun i:Nat=> -1-(i:Int)) (Zkh l) fun x hx=>by
  obtain ⟨p,hp,rfl⟩:=Zjn.1 hx
  have:=h p hp
  exact List.mem_map.2 ⟨(-1-p.1).toNat,by simp;omega,by omega⟩
 simpa using h1
end Go.Px.Scan
namespace Go.Proofs.YtckbgeedlobfaaaGreatDoor
open Go.Px Go.Px.Scan Go.RowKit
attribute [-go_sem] Builtin.append_
structure BRead (w:World)(b:Nat)(S:BS)(a0:Option Addr)(c0:Nat)(a2:Option Addr)(c2:Nat)(a4:Option Addr)(c4:Nat)(a5:Option Addr)(c5:Nat)(a6:Option Addr)(c6:Nat)(rs:List Value):Prop where
 k0:w.cell? ⟨b,0,none⟩=some (.slice a0 S.terms.length c0)
 k2:w.cell? ⟨b,2,none⟩=some (.slice a2 S.nons.length c2)
 k4:w.cell? ⟨b,4,none⟩=some (.slice a4 S.terms.length c4)
 k5:w.cell? ⟨b,5,none⟩=some (.slice a5 S.levels.length c5)
 k6:w.cell? ⟨b,6,none⟩=some (.slice a6 S.rules.length c6)
 k7:w.cell? ⟨b,7,none⟩=some (.int .i64 S.start)
 texts:w.ownsRow 0 9 1 (.slice a0 S.terms.length c0) S.terms.length (S.terms.map fun t=> .string t.1)
 nons:w.ownsRow 0 9 1 (.slice a2 S.nons.length c2) S.nons.length (S.nons.map Value.string)
 graded:w.ownsRow 0 3 1 (.slice a4 S.terms.length c4) S.terms.length (S.terms.map fun t=> .int .i64 t.2)
 levels:w.ownsRow 0 3 1 (.slice a5 S.levels.length c5) S.levels.length (S.levels.map (.int .i64 ·))
 rules:w.ownsRow 0 130 3 (.slice a6 S.rules.length c6) S.rules.length ((S.rules.zip rs).flatMap fun x=>Zh3 x.1 x.2)
 rlen:rs.length=S.rules.length
 rights:∀(i:Nat) r v,S.rules[i]?=some r→rs[i]?=some v→(Zo rInt).at1 w w.heap.size v r.2.1
theorem Row.form {w:World}{T:Nat→Nat}{tag e size:Nat}{v:Value}{n:Nat}{xs:List Value}(h:Row w T tag e size v n xs):∃a c,v = .slice a n c:=by
 rcases h.1.2 with ⟨h1,h2⟩|⟨g,cap,cur,hv,_⟩
 ·exact ⟨none,0,by rw[h1,h2]⟩
 ·exact ⟨_,_,hv⟩
theorem Bld.read {w:World}{T:Nat→Nat}{b:Nat}{V:BV}{S:BS}(h:Bld w T b V S):∃a0 c0 a2 c2 a4 c4 a5 c5 a6 c6 rs,∀w',Chg noB w w'→BRead w' b S a0 c0 a2 c2 a4 c4 a5 c5 a6 c6 rs:=by
 obtain ⟨a0,c0,e0⟩:=h.terms.row.form
 obtain ⟨a2,c2,e2⟩:=h.nons.row.form
 obtain ⟨a4,c4,e4⟩:=h.graded.form
 obtain ⟨a5,c5,e5⟩:=h.levels.form
 obtain ⟨a6,c6,e6⟩:=h.rules.form
 rw[List.length_map]at e0
 refine ⟨a0,c0,a2,c2,a4,c4,a5,c5,a6,c6,V.rs,fun w' hc=>?_⟩
 have k:=h.keep hc (fun _ _=>id)
 have q0:=k.terms.row.1
 rw[List.length_map,List.map_map]at q0
 exact ⟨by rw[←e0];exact k.terms.c0,by rw[←e2];exact k.nons.c0,by rw[←e4];exact k.cg,by rw[←e5];exact k.cl,by rw[←e6];exact k.cr,k.cs,
  by rw[←e0];exact q0,by rw[←e2];exact k.nons.row.1,by rw[←e4];exact k.graded.1,by rw[←e5];exact k.levels.1,by rw[←e6];exact k.rules.1,k.rlen,fun i r v h1 h2=>(k.rights i r v h1 h2).rd⟩
def Zor (t:ByteArray×Int):List Value:=[.string t.1,.int .i64 t.2]
def Zgm (x:(Int×List Int×Int)×Value):List Value:=[.int .i64 x.1.1,x.2,.int .i64 x.1.2.2]
def Zoy (w w':World)(v:Value)(g:Gr):Prop :=
 ∃A1 c1 A2 c2 A3 c3 A4 c4 vs,v = .agg #[.slice A1 g.terms.length c1,.slice A2 g.nons.length c2,.slice A3 g.levels.length c3,.int .i64 g.start,.slice A4 g.prods.length c4] ∧
  St noB w w' [rowC 64 2 A1 g.terms.length c1 (g.terms.flatMap Zor),rowC 9 1 A2 g.nons.length c2 (g.nons.map Value.string),rowC 3 1 A3 g.levels.length c3 (g.levels.map (.int .i64 ·)),
   rowC 50 3 A4 g.prods.length c4 ((g.prods.zip vs).flatMap Zgm),Zeg 3 1 vs (g.prods.map fun p=>p.2.1.map (.int .i64 ·))] ∧
  (∀t∈g.terms,t.1.size≤maxLen∧Zz t.2)∧(∀s∈g.nons,s.size≤maxLen)∧(∀x∈g.levels,Zz x)∧Zz g.start∧∀p∈g.prods,Zz p.1∧(∀x∈p.2.1,Zz x)∧Zz p.2.2
theorem Zzg {w:World}{F:Nat→Prop}{A4:Option Addr}{c4 n4:Nat}{pl:List (Int×List Int×Int)}{vs:List Value}(h4:(rowC 50 3 A4 n4 c4 ((pl.zip vs).flatMap Zgm)).ok w F){F':Nat→Prop}(h5:(Zeg 3 1 vs (pl.map fun p=>p.2.1.map (.int .i64 ·))).ok w F')(hn:n4=pl.length)
  (hp:∀p∈pl,Zz p.1∧(∀x∈p.2.1,Zz x)∧Zz p.2.2):(Zo rPr).at1 w w.heap.size (.slice A4 n4 c4) pl:=by
 have hvl:vs.length=pl.length:=by have:=h5.1;simpa using this
 have hsz:=Zhw h4
 refine ⟨A4,c4,by rw[hn],by omega,hsz.2.2,trivial,fun hpos=>?_⟩
 have hlen:((pl.zip vs).flatMap Zgm).length=pl.length*3:=by rw[hsz.1,hn]
 obtain ⟨g,rfl,_,_,_,hg⟩:=Zik h4 (j:=0) (by omega)
 refine ⟨g,0,rfl,hg,fun i x hi=>?_⟩
 have hil:=(List.getElem?_eq_some_iff.1 hi).1
 have hx:=(List.getElem?_eq_some_iff.1 hi).2
 have hiv:i<vs.length:=by omega
 obtain ⟨a,n,c,hv,hrow⟩:=h5.2 i vs[i] (x.2.1.map (.int .i64 ·)) (List.getElem?_eq_getElem hiv) (by rw[List.getElem?_map,hi];rfl)
 have hxm:x∈pl:=List.mem_of_getElem? hi
 have hn2:n=x.2.1.length:=by have:=(Zhw hrow).1;simpa using this.symm
 have hrd:(Zo rInt).at1 w w.heap.size (.slice a n c) x.2.1:=by
  rw[hn2]
  exact Zdh (r:=rInt) (enc:=fun x=>[Value.int .i64 x]) (base:=0) (e:=3) (by rw[Zfu,←hn2];exact hrow.1) (fun _ _=>rfl) (fun y hy=>⟨rfl,(hp x hxm).2.1 y hy⟩) (Nat.le_refl _)
 refine ⟨Zgm (x,vs[i]),⟨[_],_,rfl,⟨rfl,(hp x hxm).1⟩,[_],_,rfl,by rw[hv];exact hrd,rfl,(hp x hxm).2.2⟩,fun j u hj=>?_⟩
 have hjl:j<3:=by have:=(List.getElem?_eq_some_iff.1 hj).1;simpa[Zgm]using this
 have key:∀(l:List (Int×List Int×Int)) (vs:List Value) (i:Nat) (x:Int×List Int×Int) (v:Value),l[i]?=some x→vs[i]?=some v→((l.zip vs).flatMap Zgm)[i*3+j]?=(Zgm (x,v))[j]?:=by
  intro l
  induction l with
  | nil=>intro vs i x v h;simp at h
  | cons y l ih=>
   intro vs i x v h h2
   cases vs with
   | nil=>simp at h2
   | cons z vs=>
    cases i with
    | zero=>simp at h h2;subst h h2;rw[List.zip_cons_cons,List.flatMap_cons,List.getElem?_append_left (by simp[Zgm];omega)];simp
    | succ i=>
     rw[List.zip_cons_cons,List.flatMap_cons,List.getElem?_append_right (by simp[Zgm];omega)]
     have:=ih vs i x v (by simpa using h) (by simpa using h2)
     rw[←this]
     congr 1
     simp[Zgm];omega
 have hk:=key pl vs i x vs[i] hi (List.getElem?_eq_getElem hiv)
 rw[hj]at hk
 have hlt:=(List.getElem?_eq_some_iff.1 hk).1
 obtain ⟨g',e,hcell,_⟩:=Zik h4 hlt
 injection e with e;injection e with e
 subst e
 rw[(List.getElem?_eq_some_iff.1 hk).2]at hcell
 have hr3:rPr.size=3:=rfl
 rw[hr3,Nat.zero_add]
 exact hcell
theorem Zoy.read {w w':World}{v:Value}{g:Gr}(h:Zoy w w' v g):Zcz.atN w' w'.heap.size v g:=by
 obtain ⟨A1,c1,A2,c2,A3,c3,A4,c4,vs,rfl,hst,h1,h2,h3,h4,h5⟩:=h
 obtain ⟨F1,o1,_⟩:=hst.get (k:=0) rfl
 obtain ⟨F2,o2,_⟩:=hst.get (k:=1) rfl
 obtain ⟨F3,o3,_⟩:=hst.get (k:=2) rfl
 obtain ⟨F4,o4,_⟩:=hst.get (k:=3) rfl
 obtain ⟨F5,o5,_⟩:=hst.get (k:=4) rfl
 refine Zu8 ?_ ?_ ?_ rfl h4 (Zzg o4 o5 rfl h5)
 ·exact Zdh (r:=Zl1) (enc:=Zor) (base:=0) (e:=64) o1.1 (fun _ _=>rfl) (fun x hx=>⟨[_],_,rfl,⟨rfl,(h1 x hx).1⟩,rfl,(h1 x hx).2⟩) (Nat.le_refl _)
 ·exact Zdh (r:=rStr) (enc:=fun s=>[Value.string s]) (base:=0) (e:=9) (by rw[Zfu];exact o2.1) (fun _ _=>rfl) (fun x hx=>⟨rfl,h2 x hx⟩) (Nat.le_refl _)
 ·exact Zdh (r:=rInt) (enc:=fun s=>[Value.int .i64 s]) (base:=0) (e:=3) (by rw[Zfu];exact o3.1) (fun _ _=>rfl) (fun x hx=>⟨rfl,h3 x hx⟩) (Nat.le_refl _)
theorem Zoy.chg {w w':World}{v:Value}{g:Gr}(h:Zoy w w' v g):Chg noB w w':=by
 obtain ⟨A1,c1,A2,c2,A3,c3,A4,c4,vs,rfl,hst,_⟩:=h
 exact hst.chg
end Go.Proofs.YtckbgeedlobfaaaGreatDoor
