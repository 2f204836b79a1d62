/-
  Texts of this claim: ScSpec, ScSpec2, ScSpec3, Gm1, Gs1, Gs2, T02Ty, Bt1, Gr1, Gr2, Gs3.
-/
import Derived.Test.YtjibcckpehdbhaaGreatDoorY02
import Derived.Lib.IndexLaws
import Derived.Test.YtjibcckpehdbhaaGreatDoorY05
import Derived.Lib.OthersKept
import Derived.Laws.RangeAny
import Derived.Test.YtjibcckpehdbhaaGreatDoorY03
import Derived.Laws.BitsAll
import Derived.Test.YtjibcckpehdbhaaGreatDoorY06
set_option maxHeartbeats 1000000
set_option linter.unusedSimpArgs false
set_option linter.unusedVariables false
set_option maxRecDepth 100000
theorem Go.Px.wS (k:Nat)(h:k<4611686018427387904):Go.IntKind.i64.wrap ((k:Int)+1)=(k:Int)+1:=Go.IntWalk.i64_in _ (by omega)
namespace Go.Px.Scan
open Go.Px
def Zd0 (c:Nat):Bool:=decide (65<=c/\c<=90\/97<=c/\c<=122)
def Zfd (c:Nat):Bool:=Zd0 c || decide (c=95\/48<=c/\c<=57)
def Ze2 (c:Nat):Bool:=decide (32<=c/\c<=126/\c≠39)
def Zvx:List ByteArray:=[⟨#[37,108,101,102,116]⟩,⟨#[37,110,111,110,97,115,115,111,99]⟩,⟨#[37,110,111,110,101]⟩,⟨#[37,112,114,101,99]⟩,
 ⟨#[37,114,105,103,104,116]⟩,⟨#[37,115,116,97,114,116]⟩,⟨#[37,116,111,107,101,110]⟩]
def prefB (o p:ByteArray):Bool:=decide (p.size<=o.size) && ((o.extract 0 p.size).toList == p.toList)
def begun (p:ByteArray):Bool:=Zvx.any λ o=>prefB o p
def whole (p:ByteArray):Bool:=Zvx.any λ o=>p.toList == o.toList
abbrev Wd:=Int×ByteArray×Int
end Go.Px.Scan
namespace Go.Px
end Go.Px
namespace Go.Px.Scan
open Go.Px
def Zh5 (s:ByteArray):Prop:=0<s.size/\s.size<=16/\(Zd0 (bt s 0) || decide (bt s 0=95))=true/\∀i,i<s.size->Zfd (bt s i)=true
def Zoz (s:ByteArray):Prop:=0<s.size/\s.size<=16/\∀i,i<s.size->Ze2 (bt s i)=true
theorem Zph {c:Nat}(h:Zfd c=true):Ze2 c=true:=by
 simp[Zfd,Zd0,Ze2]at *;omega
theorem Zh5.term {s:ByteArray}(h:Zh5 s):Zoz s:=⟨h.1,h.2.1,λ i hi=>Zph (h.2.2.2 i hi)⟩
theorem Zoj {a b:ByteArray}(h:a.data.toList=b.data.toList):a=b:=by
 cases a;cases b;simp at h;cases h;rfl
def quo (s:ByteArray):ByteArray:=(⟨#[39]⟩++s)++⟨#[39]⟩
open Classical in
noncomputable def nmB (s:ByteArray):Bool:=decide (Zh5 s)
open Classical in
noncomputable def tmB (s:ByteArray):Bool:=decide (Zoz s)
theorem Zg5 {s:ByteArray}:nmB s=true↔Zh5 s:=@decide_eq_true_iff _ (_)
theorem Zg3 {s:ByteArray}:tmB s=true↔Zoz s:=@decide_eq_true_iff _ (_)
theorem ZZ9 {s:ByteArray}(h:¬Zh5 s):nmB s=false:=by rw[Qb5];exact λ h'=>h (Zg5.1 h')
theorem ZZ16 {s:ByteArray}(h:¬Zoz s):tmB s=false:=by rw[Qb5];exact λ h'=>h (Zg3.1 h')
end Go.Px.Scan
namespace Go.Proofs.YtjibcckpehdbhaaGreatDoor
open Go.Px Go.Px.Scan Go.RowKit
theorem Zyi {p:Nat->Prop}(h:∀c:Fin 256,p c.val)(c:Nat)(hc:c<256):p c:=h ⟨c,hc⟩
theorem or32 (c:Nat)(hc:c<256):(decide (97<=bits BinOp.or IntKind.u8 (c:Int) 32) && decide (bits BinOp.or IntKind.u8 (c:Int) 32<=122))=Zd0 c :=
 Zyi (p:=λ c=>(decide (97<=bits BinOp.or IntKind.u8 (c:Int) 32) && decide (bits BinOp.or IntKind.u8 (c:Int) 32<=122))=Zd0 c) (by decide +kernel) c hc
theorem Zr6 (r:Int)(w:World):Ct Tryz.prog Zc1.id #[.int .i32 r] w λ v w'=>v = .bool (decide (r<32\/126<r\/r=39))/\w=w':=by
 refine Zc1.ct λ R hR=>?_;unfold Zc1.run Zc1.b1;simp[go_sem];refine Za (λ h=>?_) (λ h=>?_)<;>simp at h
 ·exact hR _ _ ⟨by simp[h],rfl⟩
 ·simp[go_sem];refine Za (λ h2=>?_) (λ h2=>?_)<;>simp at h2
  ·exact hR _ _ ⟨by simp[h2],rfl⟩
  ·simp[go_sem];refine hR _ _ ⟨?_,rfl⟩;congr 1;rw[Qbb];simp;omega
theorem Zxn {w:World}{k:Nat}(s:ByteArray)(pos:Nat):Chg (·=k) w (w.iterAt k s pos) :=
 ⟨rfl,rfl,rfl,by rw[Lib.iterAt_size];exact Ql _,λ i _ hi=>Lib.iterAt_other w k i s pos hi⟩
theorem Zn8 {s:ByteArray}(hs:s.size<=maxLen)(w:World):Ct Tryz.prog Zch.id #[.string s,.func (.func Zc1.id) #[] #[]] w λ v w'=>(∃i,v = .int .i64 i/\(0<=i↔¬∀j,j<s.size->Ze2 (bt s j)=true))/\Chg (λ _=>False) w w':=by
 refine Zch.ct λ R hR=>?_;unfold Zch.run Zch.b1;refine Zi (S:=λ v w'=>(∃i,v = .int .i64 i/\(0<=i↔¬∀j,j<s.size->Ze2 (bt s j)=true))/\Chg (λ _=>False) w w') (Zbk.ct λ R hR=>?_) (λ v w' h=>hR v w' h);unfold Zbk.run Zbk.b1 Zbk.b4;simp[go_sem];have hc0:Chg (λ _=>False) w (w.iter s 0):=(Chg.refl _ _).alloc _;have hk0:(w.iter s 0).heap[w.heap.size]?=some (.stringIter s 0):=World.iter_heap w s 0;refine Zbk.l6_intro _ _ _ _ _ (λ W=>∃j,j<=s.size/\W.heap[w.heap.size]?=some (.stringIter s j)/\(∀i,i<j->Ze2 (bt s i)=true)/\Chg (λ _=>False) w W) (λ W=>s.size-W.iterPos w.heap.size) ⟨0,Qy _,hk0,λ i h=>by omega,hc0⟩ ?_;rintro W ⟨j,hj,hk,hall,hc⟩ C hC;unfold Zbk.b7;by_cases hlt:j<s.size
 ·have hb:(s[j]'hlt).toNat=bt s j:=by unfold bt;rw[dif_pos hlt]
  rw[Ur_eq,Lib.run_next_any_at W w.heap.size s j 0 hk hlt,Zb2];simp[go_sem];refine Zdx (Zr6 _ _) ?_;rintro _ _ ⟨rfl,rfl⟩;simp[go_sem];have hci:Chg (λ _=>False) w (W.iterAt w.heap.size s (j+(Utf8.decode s j).2)):=hc.trans' (Zxn s _) (λ i hi h=>by omega);refine Za (λ h=>?_) (λ h=>?_)
  ·refine hR _ _ ⟨⟨j,rfl,?_⟩,hci⟩;refine ⟨λ _ hp=>?_,λ _=>by omega⟩;have h1:=hp j hlt;have h2:bt s j<128:=by simp[Ze2]at h1;omega
   rw[decode_ascii s j hlt (by rw[hb];exact h2),hb]at h;simp[Ze2]at h1 h;omega
  ·have hlow:bt s j<128:=by
    rcases Qay (bt s j) 128 with h2|h2
    ·exact h2
    ·have:=(decode_high s j hlt (by rw[hb];exact h2)).1;simp at h;omega
   have hd:=decode_ascii s j hlt (by rw[hb];exact hlow);rw[hd]at h hci |-;rw[hb]at h;simp at h;refine hC _ ⟨j+1,hlt,Lib.iterAt_heap _ _ _ _ _ hk,λ i hi=>?_,hci⟩ ?_
   ·by_cases he:i=j
    ·rw[he];simp[Ze2];omega
    ·exact hall i (by omega)
   ·unfold World.iterPos;rw[Lib.iterAt_heap _ _ _ _ _ hk,hk];simp;omega
 ·rw[Ur_eq,Lib.run_next_end_at W w.heap.size s j 0 hk hlt,Zb2];simp[go_sem];unfold Zbk.b3;refine hR _ _ ⟨⟨-1,rfl,?_⟩,hc⟩;refine ⟨λ h=>by omega,λ h=>absurd (λ i hi=>hall i (by omega)) h⟩
theorem Znc {s:ByteArray}:(s.toList == [])=decide (s.size=0):=by
 rw[ByteArray.toList_eq];by_cases h:s.size=0
 ·have:s.data.toList=[]:=Qal (by simpa using h);simp[this,h]
 ·have:s.data.toList≠[]:=λ e=>h (by have:=congrArg List.length e;simpa using this);rw[beq_eq_false_iff_ne.2 this];simp[h]
theorem Zkm {s:ByteArray}(h:s.toList=[]):s.size=0:=by
 rw[ByteArray.toList_eq]at h;have h2:s.data.toList.length=s.size:=by simp
 rw[h]at h2;exact h2.symm
theorem Ztj {s:ByteArray}(hs:s.size<=maxLen)(w:World):Ct Tryz.prog Zd4.id #[.string s] w λ v w'=>v = .bool (tmB s)/\Chg (λ _=>False) w w':=by
 refine Zd4.ct λ R hR=>?_;have no:¬Zoz s->R (.returned (.bool false)) w:=λ h=>hR _ _ ⟨by rw[ZZ16 h],Chg.refl _ _⟩;unfold Zd4.run Zd4.b1;simp[go_sem];refine Za (λ h=>?_) (λ h=>?_)
 ·have hpos:0<s.size:=by
   rcases Qcd s.size with h0|h0
   ·have:=Znc (s:=s);rw[h0]at this;simp at this h;exact absurd this h
   ·exact h0
  simp[go_sem];refine Za (λ h2=>?_) (λ h2=>?_)<;>simp at h2
  ·refine Zi (Zn8 hs w) ?_;rintro _ w1 ⟨⟨i,rfl,hi⟩,hc⟩;simp[go_sem];refine hR _ _ ⟨?_,hc⟩;congr 1;rw[Qbb,Zg3,decide_eq_true_iff];constructor
   ·intro h3;refine ⟨hpos,by omega,?_⟩;exact Qv λ h4=>by have:=hi.2 h4;omega
   ·intro h3;rcases Int.lt_or_le i 0 with h4|h4
    ·exact h4
    ·exact absurd h3.2.2 (hi.1 h4)
  ·exact no λ h3=>by have:=h3.2.1;omega
 ·refine no λ h3=>?_;have h4:=h3.1;have h5:s.toList=[]:=by simpa using h
  have h6:=Zkm h5;omega
theorem Zvy {s:ByteArray}(hs:s.size<=maxLen)(w:World):Ct Tryz.prog Za9.id #[.string s] w λ v w'=>v = .bool (nmB s)/\Chg (λ _=>False) w w':=by
 refine Za9.ct λ R hR=>?_;have no:¬Zh5 s->R (.returned (.bool false)) w:=λ h=>hR _ _ ⟨by rw[ZZ9 h],Chg.refl _ _⟩;unfold Za9.run Za9.b1 Za9.b4;simp[go_sem];refine Za9.l6_intro _ _ _ _ _ (λ x w1=>∃k:Nat,x = .int .i64 k/\k<=s.size/\(∀i,i<k->Zfd (bt s i)=true)/\(0<k->(Zd0 (bt s 0) || decide (bt s 0=95))=true)/\w=w1) (λ x _=>s.size-iv x) ⟨0,rfl,by omega,λ i h=>by omega,λ h=>by omega,rfl⟩ ?_;rintro _ _ ⟨k,rfl,hk,hall,hfst,rfl⟩ C hC;unfold Za9.b7;simp[go_sem];refine Za (λ h=>?_) (λ h=>?_)<;>simp at h
 ·have step:∀b,(b=false->Zfd (bt s k)=true/\(k=0->(Zd0 (bt s 0) || decide (bt s 0=95))=true))->(b=true->¬Zh5 s)->Za9.b12 R C (.int .i64 k) (.bool b) w:=by
   intro b h1 h2;unfold Za9.b12
   cases b with
   | true=>simp[go_sem];exact no (h2 rfl)
   | false=>
    simp[go_sem];unfold Za9.b9;simp[go_sem,Zcv h hs];refine hC _ _ ⟨k+1,by simp,by omega,λ i hi=>?_,λ _=>?_,rfl⟩ (by simp[iv];omega)
    ·by_cases he:i=k
     ·rw[he];exact (h1 rfl).1
     ·exact hall i (by omega)
    ·by_cases he:k=0
     ·exact (h1 rfl).2 he
     ·exact hfst (by omega)
  have hb:=bt_lt s k;have hor:=or32 (bt s k) hb;have noK:Zfd (bt s k)=false->¬Zh5 s:=λ h1 h2=>by rw[h2.2.2.2 k h]at h1;cases h1
  have no0:k=0->Zd0 (bt s k)=false->bt s k≠95->¬Zh5 s:=λ h1 h2 h3 h4=>by
   have:=h4.2.2.1;rw[<-h1,h2]at this;simp at this;exact h3 this
  have h95:bt s k=95->∀b,b=false->Za9.b12 R C (.int .i64 k) (.bool b) w:=λ h1 b hb=>step b (λ _=>⟨by rw[h1];rfl,λ h0=>by rw[h0]at h1;rw[h1];rfl⟩) (λ e=>by rw[hb]at e;cases e);have hlet:Zd0 (bt s k)=true->Za9.b12 R C (.int .i64 k) (.bool false) w:=λ h1=>step false (λ _=>⟨by simp[Zfd,h1],λ h0=>by rw[h0]at h1;rw[h1];rfl⟩) (λ e=>by cases e);unfold Za9.b11;simp[go_sem,Zdr,h];refine Za (λ h1=>?_) (λ h1=>?_)
  ·have h95':bt s k≠95:=by simp at h1;omega
   simp[go_sem];have nolet:Zd0 (bt s k)=false->(k=0->Za9.b12 R C (.int .i64 k) (.bool true) w)/\(¬k=0->bt s k<48->Za9.b12 R C (.int .i64 k) (.bool true) w)/\(¬k=0->48<=bt s k->Za9.b12 R C (.int .i64 k) (.bool (decide ((57:Int)<bt s k))) w):=λ hl=>by
    refine ⟨λ h0=>step _ (λ e=>by cases e) (λ _=>no0 h0 hl h95'),λ h0 h48=>step _ (λ e=>by cases e) (λ _=>noK ?_),λ h0 h48=>step _ (λ e=>⟨?_,λ e0=>absurd e0 h0⟩) (λ e=>noK ?_)⟩
    ·simp[Zfd,hl];omega
    ·simp at e;simp[Zfd];omega
    ·simp at e;simp[Zfd,hl];omega
   refine Za (λ h2=>?_) (λ h2=>?_)
   ·have hl:Zd0 (bt s k)=false:=by rw[<-hor];simp at h2 |-;omega
    obtain ⟨n1,n2,n3⟩:=nolet hl;simp[go_sem];refine Za (λ h3=>?_) (λ h3=>?_)
    ·exact n1 (by simpa using h3)
    ·have hk0:¬k=0:=by simpa using h3
     simp[go_sem];refine Za (λ h4=>?_) (λ h4=>?_)
     ·exact n2 hk0 (by simp at h4;omega)
     ·simp[go_sem];exact n3 hk0 (by simp at h4;omega)
   ·simp[go_sem];refine Za (λ h3=>?_) (λ h3=>?_)
    ·have hl:Zd0 (bt s k)=false:=by rw[<-hor];simp at h2 h3 |-;omega
     obtain ⟨n1,n2,n3⟩:=nolet hl;simp[go_sem];refine Za (λ h5=>?_) (λ h5=>?_)
     ·exact n1 (by simpa using h5)
     ·have hk0:¬k=0:=by simpa using h5
      simp[go_sem];refine Za (λ h4=>?_) (λ h4=>?_)
      ·exact n2 hk0 (by simp at h4;omega)
      ·simp[go_sem];exact n3 hk0 (by simp at h4;omega)
    ·exact hlet (by rw[<-hor];simp at h2 h3 |-;omega)
  ·exact h95 (by simp at h1;omega) false rfl
 ·unfold Za9.b3;have fin:∀b,b=nmB s->R (.returned (.bool b)) w:=λ b hb=>hR _ _ ⟨by rw[hb],Chg.refl _ _⟩;simp[go_sem];refine Za (λ h1=>?_) (λ h1=>?_)
  ·have hpos:0<s.size:=by
    rcases Qcd s.size with h0|h0
    ·have:=Znc (s:=s);rw[h0]at this;simp at this h1;exact absurd this h1
    ·exact h0
   simp[go_sem];refine fin _ ?_;rw[Qbb,Zg5];simp;constructor
   ·intro h2;exact ⟨hpos,by omega,hfst (by omega),λ i hi=>hall i (by omega)⟩
   ·intro h2;have:=h2.2.1;omega
  ·refine no λ h3=>?_;have h4:=h3.1;have h5:s.toList=[]:=by simpa using h1
   have h6:=Zkm h5;omega
theorem Zkv {s:ByteArray}(hs:s.size<=maxLen)(w:World):Ct Tryz.prog Zbr.id #[.string s] w λ v w'=>v = .bool (tmB s)/\w=w':=by
 refine Zbr.ct λ R hR=>?_;have no:¬Zoz s->∀v,v=Value.bool false->R (.returned v) w:=λ h v hv=>hR _ _ ⟨by rw[hv,ZZ16 h],rfl⟩;unfold Zbr.run Zbr.b1 Zbr.b4;refine Zbr.l6_intro _ _ _ _ (λ x w1=>∃k:Nat,x = .int .i64 k/\k<=s.size/\(∀i,i<k->Ze2 (bt s i)=true)/\w=w1) (λ x _=>s.size-iv x) ⟨0,rfl,by omega,λ i h=>by omega,rfl⟩ ?_;rintro _ _ ⟨k,rfl,hk,hall,rfl⟩ C hC;unfold Zbr.b7;simp[go_sem];refine Za (λ h=>?_) (λ h=>?_)<;>simp at h
 ·have step:∀b,b = !(Ze2 (bt s k))->Zbr.b12 R C (.int .i64 k) (.bool b) w:=by
   intro b hb;unfold Zbr.b12
   cases b with
   | true=>
    simp[go_sem];exact no (λ hn=>by have:=hn.2.2 k h;rw[this]at hb;cases hb) _ rfl
   | false=>
    simp[go_sem];unfold Zbr.b9;simp[go_sem,Zcv h hs];refine hC _ _ ⟨k+1,by simp,by omega,λ i hik=>?_,rfl⟩ (by simp[iv];omega);by_cases he:i=k
    ·rw[he];simpa using hb
    ·exact hall i (by omega)
  unfold Zbr.b11;simp[go_sem,Zdr,h];refine Za (λ h1=>?_) (λ h1=>?_)<;>simp at h1
  ·exact step _ (by simp[Ze2];omega)
  simp[go_sem,Zdr,h];refine Za (λ h2=>?_) (λ h2=>?_)<;>simp at h2
  ·exact step _ (by simp[Ze2];omega)
  simp[go_sem,Zdr,h];exact step _ (by rw[Qbb];simp[Ze2];omega)
 ·unfold Zbr.b3;have fin:∀b,b=tmB s->R (.returned (.bool b)) w:=λ b hb=>hR _ _ ⟨by rw[hb],rfl⟩;simp[go_sem];refine Za (λ h1=>?_) (λ h1=>?_)<;>simp at h1
  ·simp[go_sem];refine fin _ ?_;rw[Qbb,Zg3];simp;constructor
   ·intro h2;exact ⟨by omega,by omega,λ i hi=>hall i (by omega)⟩
   ·intro h2;have:=h2.2.1;omega
  ·exact no (λ hn=>by have:=hn.1;omega) _ rfl
theorem Zjy {s:ByteArray}(hs:s.size<=maxLen)(w:World):Ct Tryz.prog Zav.id #[.string s] w λ v w'=>v = .bool (nmB s)/\w=w':=by
 refine Zav.ct λ R hR=>?_;have no:¬Zh5 s->R (.returned (.bool false)) w:=λ h=>hR _ _ ⟨by rw[ZZ9 h],rfl⟩;unfold Zav.run Zav.b1 Zav.b4;refine Zav.l6_intro _ _ _ _ (λ x w1=>∃k:Nat,x = .int .i64 k/\k<=s.size/\(∀i,i<k->Zfd (bt s i)=true)/\(0<k->(Zd0 (bt s 0) || decide (bt s 0=95))=true)/\w=w1) (λ x _=>s.size-iv x) ⟨0,rfl,by omega,λ i h=>by omega,λ h=>by omega,rfl⟩ ?_;rintro _ _ ⟨k,rfl,hk,hall,hfst,rfl⟩ C hC;unfold Zav.b7;simp[go_sem];refine Za (λ h=>?_) (λ h=>?_)<;>simp at h
 ·have h12:∀b,b=(Zd0 (bt s k) || decide (bt s k=95))->Zav.b12 R C (.string s) (.int .i64 k) (.bool b) w:=by
   intro b hb;have h13:∀d,d=(decide (48<=bt s k/\bt s k<=57) && decide (0<k))->Zav.b13 R C (.int .i64 k) (.bool b) (.bool d) w:=by
    intro d hd;have bad:(b || d)=false->Zav.b14 R C (.int .i64 k) (.bool true) w:=by
     intro hbd;unfold Zav.b14;simp[go_sem];refine no λ hn=>?_;have h1:=hn.2.2.2 k h;have h2:=hn.2.2.1;rw[hb,hd]at hbd;by_cases h0:k=0
     ·rw[h0,h2]at hbd;cases hbd
     ·simp[Zfd]at h1 hbd;rcases h1 with h1|h1|h1
      ·rw[h1]at hbd;simp at hbd
      ·exact hbd.1.2 h1
      ·have:=hbd.2 h1.1 h1.2;omega
    have good:(b || d)=true->Zav.b14 R C (.int .i64 k) (.bool false) w:=by
     intro hbd;unfold Zav.b14;simp[go_sem];unfold Zav.b9;simp[go_sem,Zcv h hs];rw[hb,hd]at hbd;refine hC _ _ ⟨k+1,by simp,by omega,λ i hi=>?_,λ _=>?_,rfl⟩ (by simp[iv];omega)
     ·by_cases he:i=k
      ·rw[he];simp[Zfd]at hbd |-;rcases hbd with hbd|hbd
       ·rcases hbd with hbd|hbd
        ·exact Or.inl hbd
        ·exact Or.inr (Or.inl hbd)
       ·exact Or.inr (Or.inr hbd.1)
      ·exact hall i (by omega)
     ·by_cases he:k=0
      ·rw[he]at hbd;simp at hbd |-;exact hbd
      ·exact hfst (by omega)
    unfold Zav.b13
    cases b with
    | true=>simp[go_sem];exact good rfl
    | false=>
     simp[go_sem]
     cases d with
     | true=>exact good rfl
     | false=>exact bad rfl
   unfold Zav.b12;simp[go_sem,Zdr,h];refine Za (λ h1=>?_) (λ h1=>?_)
   ·simp[go_sem,Zdr,h];refine Za (λ h2=>?_) (λ h2=>?_)
    ·simp[go_sem];refine h13 _ ?_;rw[Qbb];simp at h1 h2 |-;omega
    ·refine h13 false ?_;simp at h1 h2 |-;omega
   ·refine h13 false ?_;simp at h1 |-;omega
  unfold Zav.b11;simp[go_sem,Zdr,h];have e1:∀c:Nat,Zd0 c=decide (65<=c/\c<=90\/97<=c/\c<=122):=λ c=>rfl;refine Za (λ h1=>?_) (λ h1=>?_)
  all_goals simp[go_sem,Zdr,h]
  ·refine Za (λ h2=>?_) (λ h2=>?_)
   ·exact h12 true (by simp at h1 h2;simp[e1];omega)
   ·simp[go_sem,Zdr,h];refine Za (λ h3=>?_) (λ h3=>?_)
    all_goals simp[go_sem,Zdr,h]
    ·refine Za (λ h4=>?_) (λ h4=>?_)
     ·exact h12 true (by simp at h3 h4;simp[e1];omega)
     ·simp[go_sem,Zdr,h];exact h12 _ (by rw[Qbb];simp at h1 h2 h3 h4;simp[e1];omega)
    ·exact h12 _ (by rw[Qbb];simp at h1 h2 h3;simp[e1];omega)
  ·refine Za (λ h3=>?_) (λ h3=>?_)
   all_goals simp[go_sem,Zdr,h]
   ·refine Za (λ h4=>?_) (λ h4=>?_)
    ·exact h12 true (by simp at h3 h4;simp[e1];omega)
    ·simp[go_sem,Zdr,h];exact h12 _ (by rw[Qbb];simp at h1 h3 h4;simp[e1];omega)
   ·exact h12 _ (by rw[Qbb];simp at h1 h3;simp[e1];omega)
 ·unfold Zav.b3;have fin:∀b,b=nmB s->R (.returned (.bool b)) w:=λ b hb=>hR _ _ ⟨by rw[hb],rfl⟩;simp[go_sem];refine Za (λ h1=>?_) (λ h1=>?_)<;>simp at h1
  ·simp[go_sem];refine fin _ ?_;rw[Qbb,Zg5];simp;constructor
   ·intro h2;exact ⟨by omega,by omega,hfst (by omega),λ i hi=>hall i (by omega)⟩
   ·intro h2;have:=h2.2.1;omega
  ·exact no λ hn=>by have:=hn.1;omega
end Go.Proofs.YtjibcckpehdbhaaGreatDoor
namespace Go.Px.Scan
open Go.Px
structure Gr where
 terms:List (ByteArray×Int)
 nons:List ByteArray
 levels:List Int
 start:Int
 prods:List (Int×List Int×Int)
@[simp] abbrev gQ (A1:Option Addr)(c1:Nat)(A2:Option Addr)(c2:Nat)(A3:Option Addr)(c3:Nat)(A4:Option Addr)(c4:Nat)(g:Gr):Array Value:=#[.slice A1 g.terms.length c1,.slice A2 g.nons.length c2,.slice A3 g.levels.length c3,.int .i64 g.start,.slice A4 g.prods.length c4]
@[simp] abbrev gU (A1:Option Addr)(c1:Nat)(A2:Option Addr)(c2:Nat)(A3:Option Addr)(c3:Nat)(A4:Option Addr)(c4:Nat)(g:Gr):List Value:=[.slice A1 g.terms.length c1,.slice A2 g.nons.length c2,.slice A3 g.levels.length c3,.int .i64 g.start,.slice A4 g.prods.length c4]
def addL (acc:List Int)(x:Int):List Int:=if x∈acc then acc else acc++[x]
def Zbi (l:List (Int×List Int×Int)):List Int:=l.foldl (λ a p=>addL a p.1) []
structure Zoi (g:Gr)(t:ByteArray×Int):Prop where
 name:Zoz t.1
 lo:0<=t.2
 hi:t.2<=g.levels.length
structure Zjc (g:Gr)(a:Nat):Prop where
 t0:g.terms.head?=some (⟨#[]⟩,0)
 n0:a<g.nons.length
 t1:g.terms.length<=65
 n1:g.nons.length<=64+a
 sum:g.terms.length-1+(g.nons.length-a)<=64
 terms:∀t∈g.terms.tail,Zoi g t
 levels:∀i (h:i<g.levels.length),1<=g.levels[i]/\g.levels[i]<=3/\∃t∈g.terms.tail,t.2=(i:Int)+1
 tnd:(g.terms.tail.map (·.1)).Nodup
 nnd:(g.nons.drop a).Nodup
 nnam:∀s∈g.nons.drop a,Zh5 s
structure Zhq (g:Gr)(a:Nat)(p:Int×List Int×Int):Prop where
 l0:(g.terms.length+a:Int)<=p.1
 l1:p.1<(g.terms.length+g.nons.length:Int)
 v0:0<=p.2.2
 v1:p.2.2<=g.levels.length
 right:∀s∈p.2.1,1<=s/\s<(g.terms.length+g.nons.length:Int)/\((g.terms.length:Int)<=s->(g.terms.length+a:Int)<=s)
structure Zf4 (g:Gr)(a:Nat):Prop where
 c0:a<g.prods.length
 c1:g.prods.length<=96+a
 each:∀p∈g.prods.drop a,Zhq g a p
 lefts:(Zbi (g.prods.drop a)).length+a=g.nons.length
 s0:(g.terms.length+a:Int)<=g.start
 s1:g.start<(g.terms.length+g.nons.length:Int)
structure Zrf (g:Gr):Prop where
 syms:Zjc g 0
 prods:Zf4 g 0
 sorted:(Zbi g.prods).Pairwise (·<=·)
structure Zbn (g:Gr):Prop where
 first:g.nons.head?=some ⟨#[]⟩
 syms:Zjc g 1
 prods:Zf4 g 1
 added:g.prods.head?=some ((g.terms.length:Int),[g.start],0)
open Classical in
noncomputable def symB (g:Gr)(a:Nat):Bool:=decide (Zjc g a)
open Classical in
noncomputable def Zvr (g:Gr)(a:Nat):Bool:=decide (Zf4 g a)
open Classical in
noncomputable def Zn2 (g:Gr):Bool:=decide (Zrf g)
open Classical in
noncomputable def Zka (g:Gr):Bool:=decide (Zbn g)
theorem Zgg {g:Gr}{a:Nat}:symB g a=true↔Zjc g a:=@decide_eq_true_iff _ (_)
theorem Zew {g:Gr}{a:Nat}:Zvr g a=true↔Zf4 g a:=@decide_eq_true_iff _ (_)
theorem Zgh {g:Gr}:Zn2 g=true↔Zrf g:=@decide_eq_true_iff _ (_)
theorem Zc5 {g:Gr}:Zka g=true↔Zbn g:=@decide_eq_true_iff _ (_)
theorem Zeg {b:Bool}{p:Prop}(i:b=true↔p)(h:¬p):b=false:=by
 cases b
 ·rfl
 ·exact absurd (i.1 rfl) h
theorem Zig {a b:Bool}(h:a=true↔b=true):a=b:=Qbb.2 h
theorem Zss {acc:List Int}(h:acc.Nodup)(x:Int):(addL acc x).Nodup:=by
 unfold addL;split
 ·exact h
 ·rename_i hx;refine Qak.2 ⟨h,by simp,λ a ha b hb=>?_⟩;simp at hb;subst hb;intro e;subst e;exact hx ha
theorem Zxs {acc:List Int}{x y:Int}:y∈addL acc x↔y∈acc\/y=x:=by
 unfold addL;split
 ·rename_i hx;exact ⟨Or.inl,λ h=>h.elim id λ e=>e ▸ hx⟩
 ·simp
theorem Zi2 (l:List (Int×List Int×Int))(p:Int×List Int×Int):Zbi (l++[p])=addL (Zbi l) p.1:=by simp[Zbi]
theorem Zkq (l:List (Int×List Int×Int)):∀acc:List Int,acc.Nodup->(l.foldl (λ a p=>addL a p.1) acc).Nodup/\∀y,y∈l.foldl (λ a p=>addL a p.1) acc↔y∈acc\/∃p∈l,p.1=y:=by
 induction l with
 | nil=>intro acc h;exact ⟨h,λ y=>by simp⟩
 | cons p r ih=>
  intro acc h;obtain ⟨h1,h2⟩:=ih (addL acc p.1) (Zss h _);refine ⟨h1,λ y=>?_⟩;rw[List.foldl_cons,h2,Zxs];simp[or_assoc,eq_comm]
theorem Zl1 (l:List (Int×List Int×Int)):(Zbi l).Nodup:=(Zkq l [] (by simp)).1
theorem Zj1 {l:List (Int×List Int×Int)}{y:Int}:y∈Zbi l↔∃p∈l,p.1=y:=by
 have:=(Zkq l [] (by simp)).2 y;simpa[Zbi]using this
theorem nodup_le {α:Type}[DecidableEq α]:∀{l m:List α},l.Nodup->(∀x∈l,x∈m)->l.length<=m.length
 | [],_,_,_=>Qy _
 | x::l,m,h,hs=>by
  rw[Qcg]at h
  have hx:=hs x (by simp)
  have:=nodup_le (l:=l) (m:=m.erase x) h.2 λ y hy=>(List.mem_erase_of_ne (λ e=>h.1 (by rw[<-e];exact hy))).2 (hs y (by simp[hy]))
  rw[List.length_erase_of_mem hx]at this
  have hpos:0<m.length:=List.length_pos_of_mem hx
  simp
  omega
theorem Zrt {l:List Int}(hnd:l.Nodup){t:Int}(hb:∀x∈l,t<=x/\x<t+l.length):l.Pairwise (·<=·)↔∀i (h:i<l.length),l[i]=t+i:=by
 constructor
 ·intro hp;have hlt:∀i j (hi:i<j) (hj:j<l.length),l[i]<l[j]:=by
   intro i j hi hj;have h1:=Qt.1 hp i j (by omega) hj hi;have h2:=Qt.1 hnd i j (by omega) hj hi;have h3:l[i]≠l[j]:=h2;omega
  have lo:∀i (h:i<l.length),t+i<=l[i]:=by
   intro i
   induction i with
   | zero=>intro h;have:=(hb l[0] (Qj h)).1;simpa using this
   | succ i ih=>
    intro h;have h1:=ih (by omega);have h2:=hlt i (i+1) (by omega) h;omega
  have hi':∀d i (h:i<l.length),i+d+1=l.length->l[i]<=t+i:=by
   intro d
   induction d with
   | zero=>intro i h e;have:=(hb l[i] (Qj h)).2;omega
   | succ d ih=>
    intro i h e;have h1:=ih (i+1) (by omega) (by omega);have h2:=hlt i (i+1) (by omega) (by omega);omega
  intro i h;have:=lo i h;have:=hi' (l.length-i-1) i h (by omega);omega
 ·intro h;refine Qt.2 λ i j hi hj hij=>?_;rw[h i hi,h j hj];omega
theorem Zf4.row {g:Gr}(h:Zf4 g 0):(Zbi g.prods).Pairwise (·<=·)↔∀i (hi:i<(Zbi g.prods).length),(Zbi g.prods)[i]=(g.terms.length:Int)+i:=by
 have hl:=h.lefts;rw[Qdj]at hl;refine Zrt (Zl1 _) λ x hx=>?_;obtain ⟨p,hp,rfl⟩:=Zj1.1 hx;have:=h.each p (by simpa using hp);have h1:=this.l0;have h2:=this.l1;omega
theorem Zjc.lev {g:Gr}{a:Nat}(h:Zjc g a):g.levels.length<=64:=by
 have h1:((List.range g.levels.length).map λ i:Nat=>(i:Int)+1).length<=(g.terms.tail.map (·.2)).length:=by
  refine nodup_le ?_ λ x hx=>?_
  ·refine Qbk.2 ?_;refine List.Pairwise.imp ?_ (Qc7 (n:=g.levels.length));intro a b hab e;exact hab (by omega)
  ·obtain ⟨i,hi,rfl⟩:=Qr.1 hx;obtain ⟨_,_,t,ht,e⟩:=h.levels i (by simpa using hi);exact Qr.2 ⟨t,ht,e⟩
 have:=h.t1;simp at h1;omega
open Go.RowKit
def Zsq:Rep (ByteArray×Int):=rStr.prod rInt
def rPr:Rep (Int×List Int×Int):=rInt.prod ((Zq rInt).prod rInt)
def Zb7:Rep Gr:=Rep.map ((Zq Zsq).prod ((Zq rStr).prod ((Zq rInt).prod (rInt.prod (Zq rPr))))) λ g=>(g.terms,g.nons,g.levels,g.start,g.prods)
section
variable {w:World} {B:Nat} {A:Option Addr} {n c:Nat}
theorem Ze0 {l:List (ByteArray×Int)}(h:(Zq Zsq).at1 w B (.slice A n c) l){i:Nat}(hi:i<l.length) :
  ∃b o,A=some ⟨b,o,none⟩/\b<B/\w.cell? ⟨b,o+i*2,none⟩=some (.string l[i].1)/\w.cell? ⟨b,o+i*2+1,none⟩=some (.int .i64 l[i].2)/\l[i].1.size<=maxLen/\Zdf l[i].2:=by
 obtain ⟨b,o,ys,hA,hb,⟨c1,c2,rfl,⟨rfl,h1⟩,rfl,h2⟩,hc⟩:=Zek h hi;exact ⟨b,o,hA,hb,hc 0 _ rfl,hc 1 _ rfl,h1,h2⟩
theorem Zcc {l:List (Int×List Int×Int)}(h:(Zq rPr).at1 w B (.slice A n c) l){i:Nat}(hi:i<l.length) :
  ∃b o v,A=some ⟨b,o,none⟩/\b<B/\w.cell? ⟨b,o+i*3,none⟩=some (.int .i64 l[i].1)/\w.cell? ⟨b,o+i*3+1,none⟩=some v/\w.cell? ⟨b,o+i*3+2,none⟩=some (.int .i64 l[i].2.2) /\
   (Zq rInt).at1 w B v l[i].2.1/\Zdf l[i].1/\Zdf l[i].2.2:=by
 obtain ⟨b,o,ys,hA,hb,⟨c1,c2,rfl,⟨rfl,h1⟩,c3,c4,rfl,h2,rfl,h3⟩,hc⟩:=Zek h hi;obtain ⟨A',k,rfl,h4⟩:=h2;exact ⟨b,o,_,hA,hb,hc 0 _ rfl,hc 1 _ rfl,hc 2 _ rfl,⟨A',k,rfl,h4⟩,h1,h3⟩
structure GrV (w:World)(B:Nat)(v:Value)(g:Gr):Prop where
 ex:∃A1 c1 A2 c2 A3 c3 A4 c4,v = .agg (gQ A1 c1 A2 c2 A3 c3 A4 c4 g) /\
  (Zq Zsq).at1 w B (.slice A1 g.terms.length c1) g.terms/\(Zq rStr).at1 w B (.slice A2 g.nons.length c2) g.nons/\(Zq rInt).at1 w B (.slice A3 g.levels.length c3) g.levels/\Zdf g.start/\(Zq rPr).at1 w B (.slice A4 g.prods.length c4) g.prods /\
  (g.terms.length<=c1/\c1<=maxLen)/\(g.nons.length<=c2/\c2<=maxLen)/\(g.levels.length<=c3/\c3<=maxLen)/\(g.prods.length<=c4/\c4<=maxLen)
theorem Zcg {v:Value}{g:Gr}(h:Zb7.atN w B v g):GrV w B v g:=by
 obtain ⟨cs,rfl,x1,y1,e1,h1,x2,y2,e2,h2,x3,y3,e3,h3,x4,y4,e4,⟨h4,i4⟩,h5⟩:=h;obtain ⟨A1,c1,f1,l1,m1,_⟩:=id h1;obtain ⟨A2,c2,f2,l2,m2,_⟩:=id h2;obtain ⟨A3,c3,f3,l3,m3,_⟩:=id h3;obtain ⟨A4,c4,f4,l4,m4,_⟩:=id h5;subst f1 f2 f3 h4 f4 e4 e3 e2 e1;exact ⟨A1,c1,A2,c2,A3,c3,A4,c4,rfl,h1,h2,h3,i4,h5,⟨l1,m1⟩,⟨l2,m2⟩,⟨l3,m3⟩,⟨l4,m4⟩⟩
theorem Zx {w':World}{v:Value}{g:Gr}(h:Zb7.atN w B v g)(hb:Below B w w'):Zb7.atN w' B v g:=by
 obtain ⟨cs,rfl,hc⟩:=h;exact ⟨cs,rfl,Zb7.keep hc (Ql _) hb.block⟩
theorem Zq8 {α β:Type}(f:α->β)(l:List α):l.flatMap (λ x=>[f x])=l.map f:=by
 induction l with
 | nil=>rfl
 | cons x r ih=>simp[ih]
theorem Zim {α:Type}{r:Rep α}{l:List α}{b o k:Nat}(h:(Zq r).at1 w B (.slice (some ⟨b,o,none⟩) l.length c) l)(hk:k<=l.length):(Zq r).at1 w B (.slice (some ⟨b,o+k*r.size,none⟩) (l.length-k) (c-k)) (l.drop k):=by
 obtain ⟨A',c',hv,h1,h2,h3,h4⟩:=h;injection hv with hv _;injection hv with hA _ hc;subst hc;refine ⟨_,c-k,by rw[Q7],by rw[Q7];omega,by omega,trivial,λ hpos=>?_⟩;rw[Q7]at hpos;obtain ⟨b',o',e,hb,hcell⟩:=h4 (by omega);rw[<-hA]at e;injection e with e;injection e with e1 e2;subst e1 e2;refine ⟨b,o+k*r.size,rfl,hb,λ i x hi=>?_⟩;rw[Qbp]at hi;obtain ⟨ys,hy,hu⟩:=hcell (k+i) x hi;refine ⟨ys,hy,λ j u hj=>?_⟩;have:=hu j u hj;rw[Qdt]at this;rw[show o+k*r.size+(i*r.size+j)=o+(k*r.size+i*r.size+j) by omega];exact this
theorem Ze8 {α:Type}{r:Rep α}{l:List α}{b o o' k:Nat}(h:(Zq r).at1 w B (.slice (some ⟨b,o,none⟩) l.length c) l)(hk:k<=l.length)(ho:o'=o+k*r.size) :
  (Zq r).at1 w B (.slice (if c=k then some ⟨b,o,none⟩ else some ⟨b,o',none⟩) (l.length-k) (c-k)) (l.drop k):=by
 subst ho;by_cases e:c=k
 ·obtain ⟨A',c',hv,h1,h2,h3,h4⟩:=id h;injection hv with hv _;injection hv with hA _ hc;have hl:l.length=k:=by omega
  rw[if_pos e];refine ⟨_,c-k,by rw[Q7],by rw[Q7];omega,by omega,trivial,λ hpos=>?_⟩;rw[Q7]at hpos;omega
 ·rw[if_neg e];exact Zim h hk
theorem Zj4 {α:Type}{r:Rep α}{n c:Nat}{l:List α}(h:(Zq r).at1 w B (.slice none n c) l):l=[]:=by
 obtain ⟨A',c',hv,h1,h2,h3,h4⟩:=h;rcases Qcd l.length with h0|h0
 ·exact Qal h0
 ·obtain ⟨b,o,e,_⟩:=h4 h0;injection hv with hv;injection hv with hA;rw[e]at hA;cases hA
end
end Go.Px.Scan
namespace Go.Proofs.YtjibcckpehdbhaaGreatDoor
open Go.Px Go.RowKit
theorem uStr:Tryz.prog.underlying 9=some .string:=Tryz.underlying9
theorem Zgn:Tryz.prog.underlying 24=some (.slice 3):=Tryz.underlying24
theorem uStrs:Tryz.prog.underlying 23=some (.slice 9):=Tryz.underlying23
theorem iInt:(Tryz.prog.info? 3).map (λ i=>(i.zero,i.size,i.bytes))=some (some (.int .i64 0),1,8):=by kernel_rfl
theorem iStr:(Tryz.prog.info? 9).map (λ i=>(i.zero,i.size,i.bytes))=some (some (.string ⟨#[]⟩),1,16):=by kernel_rfl
theorem mStr:Zl0 Tryz.prog kStr 84 9 3 where
 tm:=Tryz.underlying84
 te:=Tryz.underlying3
 keyed:=Maps.string_keyed Tryz.underlying9
 key a ha:=WideMaps.keyOf_string_mk Tryz.underlying9 ha
 zero w:=by simp[go_sem]
theorem mInt:Zl0 Tryz.prog kInt 269 3 3 where
 tm:=Tryz.underlying269
 te:=Tryz.underlying3
 keyed:=Maps.int_keyed Tryz.underlying3
 key a ha:=Maps.keyOf_int_mk Tryz.underlying3 (by
  have hm:IntKind.i64.min = -9223372036854775808:=by decide
  obtain ⟨h1,h2⟩:=ha
  simp[Lit.wf,hm]
  omega)
 zero w:=by simp[go_sem]
theorem mkStr (w:World):(Instr.makeMap 84 none).run Tryz.prog w = .ok (.map (some w.heap.size)) (w.alloc (.map #[] 0)):=by
 simp[Instr.makeMap,run_underlying Tryz.underlying84,go_sem]
theorem mkInt (w:World):(Instr.makeMap 269 none).run Tryz.prog w = .ok (.map (some w.heap.size)) (w.alloc (.map #[] 0)):=by
 simp[Instr.makeMap,run_underlying Tryz.underlying269,go_sem]
theorem ZZ160 (s:ByteArray)(x:Int)(w:World):(Instr.build 268 #[(0,.string s),(1,.int .i64 x)]).run Tryz.prog w = .ok (.agg #[.string s,.int .i64 x]) w:=by simp[go_sem]
theorem ZZ123 (s:ByteArray)(w:World):(Instr.build 268 #[(0,.string s)]).run Tryz.prog w = .ok (.agg #[.string s,.int .i64 0]) w:=by simp[go_sem]
theorem ZZ59 (x y:Int)(w:World):(Instr.build 103 #[(0,.int .i64 x),(2,.int .i64 y)]).run Tryz.prog w = .ok (.agg #[.int .i64 x,.slice none 0 0,.int .i64 y]) w:=by simp[go_sem]
theorem ZZ51 (a b:Option Addr)(n c m d:Nat)(w:World):(Instr.build 27 #[(0,.slice a n c),(2,.slice b m d)]).run Tryz.prog w = .ok (.agg #[.slice a n c,.slice none 0 0,.slice b m d,.int .i64 0,.slice none 0 0]) w:=by simp[go_sem]
theorem ZZ182 (x y:Int)(w:World):(Instr.buildSlice 24 2 #[(0,.int .i64 x),(1,.int .i64 y)]).run Tryz.prog w = .ok (.slice (some ⟨w.heap.size,0,none⟩) 2 2) (w.alloc (.cells #[.int .i64 x,.int .i64 y] 3)):=by simp[go_sem]
theorem ZZ23 (x y:Int)(w:World):(Instr.buildSlice 274 2 #[(0,.int .u8 x),(1,.int .u8 y)]).run Tryz.prog w = .ok (.slice (some ⟨w.heap.size,0,none⟩) 2 2) (w.alloc (.cells #[.int .u8 x,.int .u8 y] 5)):=by simp[go_sem]
attribute [go_sem ↓] ZZ23 ZZ182 ZZ160 ZZ123 ZZ59 ZZ51
end Go.Proofs.YtjibcckpehdbhaaGreatDoor
namespace Go.Px
open Go.RowKit
def u64s (ws:List Nat):List Value:=ws.map λ (x:Nat)=>Value.int .u64 (x:Int)
def setC (b g size:Nat)(ws:List Nat):Ch where
 ok w F:=Zib size ws/\F b/\F g/\b≠g/\w.heap[b]?=some (.cells #[.slice (some ⟨g,0,none⟩) ws.length ws.length,.int .i64 size] 197 (0,0))/\w.heap[g]?=some (.cells (u64s ws).toArray 263 (0,0))
 keep h hc hX hF:=by
  obtain ⟨h1,h2,h3,h4,h5,h6⟩:=h
  have l5:=(Qw.1 h5).1
  have l6:=(Qw.1 h6).1
  exact ⟨h1,hF _ l5 h2,hF _ l6 h3,h4,(hc.block b l5 (hX b l5 h2)).trans h5,(hc.block g l6 (hX g l6 h3)).trans h6⟩
section
variable {G:Nat->Prop} {W w:World} {L:List Ch} {b g size:Nat} {ws:List Nat}
theorem ZZ180 {F:Nat->Prop}(h:(setC b g size ws).ok w F):Zib size ws/\w.cell? ⟨b,0,none⟩=some (.slice (some ⟨g,0,none⟩) ws.length ws.length)/\w.cell? ⟨b,1,none⟩=some (.int .i64 size)/\(∀(j x:Nat),ws[j]?=some x->w.cell? ⟨g,j,none⟩=some (.int .u64 x))/\∀j,w.frozen? ⟨g,j,none⟩=false:=by
 obtain ⟨h1,h2,h3,h4,h5,h6⟩:=h;refine ⟨h1,by simp[World.cell?,h5],by simp[World.cell?,h5],λ j x hx=>?_,λ j=>by simp[World.frozen?,h6]⟩;simp[World.cell?,h6,u64s,hx]
theorem St.setAt (s:St G W w L)(k:Nat)(hk:L[k]?=some (setC b g size ws)):Zib size ws/\w.cell? ⟨b,0,none⟩=some (.slice (some ⟨g,0,none⟩) ws.length ws.length)/\w.cell? ⟨b,1,none⟩=some (.int .i64 size)/\(∀(j x:Nat),ws[j]?=some x->w.cell? ⟨g,j,none⟩=some (.int .u64 x))/\∀j,w.frozen? ⟨g,j,none⟩=false:=by
 obtain ⟨F,ho,_⟩:=s.get hk;exact ZZ180 ho
theorem St.setPut (s:St G W w L)(k:Nat)(hk:L[k]?=some (setC b g size ws))(j x:Nat)(hok:Zib size (ws.set j x)):St G W (w.setCell ⟨g,j,none⟩ (.int .u64 x)) (L.set k (setC b g size (ws.set j x))):=by
 obtain ⟨F,⟨h1,h2,h3,h4,h5,h6⟩,_,hs⟩:=s.opn hk;have hc:Chg F w (w.setCell ⟨g,j,none⟩ (.int .u64 x)):=(Zgy w ⟨g,j,none⟩ _).mono λ i _ e=>by rw[e];exact h3
 refine hs _ _ hc ⟨hok,Or.inl h2,Or.inl h3,h4,?_,?_⟩
 ·rw[Below.heap_setCell _ _ _ _ (by simpa using h4),Qau];exact h5
 ·rw[heap_setCell_same w g j _ 263 _ h6,List.setIfInBounds_toArray];unfold u64s;rw[Qap]
end
end Go.Px
namespace Go.Proofs.YtjibcckpehdbhaaGreatDoor
open Go.Px Go.RowKit
theorem shr64 (x M:Nat):(x:Int) / 2 ^ M=((x >>> M:Nat):Int):=by
 rw[Qcw];norm_cast
theorem ZZ179 {w:World}{g len n x:Nat}(hl:n / 64<len)(hn:n<65536)(hx:x<2 ^ 64)(hc:w.cell? ⟨g,n / 64,none⟩=some (.int .u64 x)) :
  Ct Tryz.prog Zc7.id #[.slice (some ⟨g,0,none⟩) len len,.int .i64 n] w λ v w'=>v = .bool (x.testBit (n % 64))/\w=w':=by
 refine Zc7.ct λ R hR=>?_;unfold Zc7.run Zc7.b1;obtain ⟨Q,hQ⟩:∃Q,n / 64=Q:=⟨_,rfl⟩;obtain ⟨M,hM⟩:∃M,n % 64=M:=⟨_,rfl⟩;have wq:IntKind.i64.wrap ((n:Int) / 64)=(Q:Int):=by rw[show (n:Int) / 64=(Q:Int) by omega];exact IntWalk.i64_in _ (by omega)
 have wt:(n:Int).tmod 64=(M:Int):=by rw[Int.tmod_eq_emod_of_nonneg (by omega)];omega
 have hM64:M<64:=by omega
 rw[hQ]at hl hc;rw[hM]at hR;have hxs:x >>> M<2 ^ 64:=Qbd (by rw[Qcw];exact Nat.div_le_self _ _) hx;have h2:=u64_and_nat (x >>> M) 1 hxs (by decide);simp -dsimp[go_sem,wq,hl,hc,wt];refine hR _ _ ⟨?_,rfl⟩;rw[shr64];have h3:bits BinOp.and IntKind.u64 ((x >>> M:Nat):Int) 1=((x >>> M &&& 1:Nat):Int):=h2;rw[h3,nat_mask1,Nat.testBit_eq_decide_div_mod_eq,Qcw];congr 1;by_cases h:x / 2 ^ M % 2=1
 ·rw[h];rfl
 ·have:x / 2 ^ M % 2=0:=by omega
  rw[this];rfl
theorem ZZ139 {w:World}{g len n x:Nat}(hl:n / 64<len)(hn:n<65536)(hx:x<2 ^ 64)(hc:w.cell? ⟨g,n / 64,none⟩=some (.int .u64 x))(hf:w.frozen? ⟨g,n / 64,none⟩=false) :
  Ct Tryz.prog Zc8.id #[.slice (some ⟨g,0,none⟩) len len,.int .i64 n] w λ v w'=>w'=(w.setCell ⟨g,n / 64,none⟩ (.int .u64 ((x ||| 1 <<< (n % 64):Nat):Int))).drew:=by
 refine Zc8.ct λ R hR=>?_;unfold Zc8.run Zc8.b1;obtain ⟨Q,hQ⟩:∃Q,n / 64=Q:=⟨_,rfl⟩;obtain ⟨M,hM⟩:∃M,n % 64=M:=⟨_,rfl⟩;have wq:IntKind.i64.wrap ((n:Int) / 64)=(Q:Int):=by rw[show (n:Int) / 64=(Q:Int) by omega];exact IntWalk.i64_in _ (by omega)
 have wt:(n:Int).tmod 64=(M:Int):=by rw[Int.tmod_eq_emod_of_nonneg (by omega)];omega
 have hM64:M<64:=by omega
 rw[hQ]at hl hc hf hR;rw[hM]at hR;simp -dsimp[go_sem,wq,hl,hc,wt,hf];have h2:(2:Nat) ^ M<2 ^ 64:=Nat.pow_lt_pow_right (by decide) hM64;have e1:IntKind.u64.wrap (2 ^ M)=((1 <<< M:Nat):Int):=by
  rw[Qc6,Qcr,IntKind.wrap_u64];have:((2:Int) ^ M)=((2 ^ M:Nat):Int):=by norm_cast
  rw[this];generalize 2 ^ M=y at h2;omega
 rw[e1,u64_or_nat x _ hx (by rw[Qc6,Qcr];exact h2)];exact hR _ _ rfl
theorem ZZ36 {w:World}{b:Nat}{n:Int}(hc:w.cell? ⟨b,1,none⟩=some (.int .i64 n)):Ct Tryz.prog Zdi.id #[.pointer (some ⟨b,0,none⟩)] w λ v w'=>v = .int .i64 n/\w=w':=by
 refine Zdi.ct λ R hR=>?_;unfold Zdi.run Zdi.b1;simp -dsimp[go_sem,hc];exact hR _ _ ⟨rfl,rfl⟩
attribute [-go_sem] Zai.b3 Zai.b9 Zai.b12_1 Zai.b12 Zai.b11_1 Zai.b11_2 Zai.b11
theorem Zqu {G:Nat->Prop}{W w:World}{L:List Ch}{k b g size:Nat}{ws:List Nat}{vm:Value}{ms:List Int}(s:St G W w L)(hk:L[k]?=some (setC b g size ws))(hsz:size<=1024)
  (hrd:∀w' ws',St G W w' (L.set k (setC b g size ws'))->(Zq rInt).at1 w' w'.heap.size vm ms) :
  Ct Tryz.prog Zai.id #[.pointer (some ⟨b,0,none⟩),vm] w λ v w'=>∃(c:Nat) (ws':List Nat),v = .int .i64 c/\(∀m:Nat,Bit ws' m=true↔Bit ws m=true\/((m:Int)∈ms/\m<size))/\Zgm ws' size+c=Zgm ws size/\St G W w' (L.set k (setC b g size ws')):=by
 refine Zai.ct λ R hR=>?_;have hkl:=(Qa.1 hk).1;have hLk:L.set k (setC b g size ws)=L:=by
  rw[<-(Qa.1 hk).2,Qai]
 have s0:St G W w (L.set k (setC b g size ws)):=by rw[hLk];exact s
 obtain ⟨A,cm,rfl,hl,hm,_⟩:=Zz (hrd w ws s0);unfold Zai.run;simp -dsimp[go_sem];refine Zai.l6_intro _ _ _ _ _ _ _ (λ x y w'=>∃(c i:Nat) (ws':List Nat),x = .int .i64 c/\y = .int .i64 i/\i<=ms.length/\(∀m:Nat,Bit ws' m=true↔Bit ws m=true\/((m:Int)∈ms.take i/\m<size))/\Zgm ws' size+c=Zgm ws size/\St G W w' (L.set k (setC b g size ws'))) (λ _ y _=>ms.length-iv y)
  ⟨0,0,ws,rfl,rfl,Qy _,λ m=>by simp,rfl,s0⟩ ?_
 rintro _ _ w2 ⟨c,i,ws2,rfl,rfl,hi,hb,hf,s2⟩ C hC;simp -dsimp[go_sem];refine Za (λ p1=>?_) (λ p1=>?_)<;>simp at p1
 ·have wi:IntKind.i64.wrap ((i:Int)+1)=(i:Int)+1:=Zcv p1 (by omega);obtain ⟨b',of,rfl,hb',ck,hin⟩:=Go.Px.ints_at (hrd w2 ws2 s2) p1;have et:ms.take (i+1)=ms.take i++[ms[i]]:=Qd p1;obtain ⟨x,hxe⟩:∃x,ms[i]=x:=⟨_,rfl⟩;rw[hxe]at ck et hin;have hkS:(L.set k (setC b g size ws2))[k]?=some (setC b g size ws2):=by rw[Qn hkl]
  obtain ⟨hok,y0,y1,yc,yf⟩:=s2.setAt k hkS;have hfl:=Zl9 ws size;have skip:(∀m:Nat,Bit ws2 m=true↔Bit ws m=true\/((m:Int)∈ms.take (i+1)/\m<size))->Zai.b9 R C (.int .i64 c) (.int .i64 i) w2:=λ h=>by
   unfold Zai.b9;simp -dsimp[go_sem,wi];exact hC _ _ _ ⟨c,i+1,ws2,rfl,by simp,by omega,h,hf,s2⟩ (by simp[iv];omega)
  unfold Zai.b11;simp -dsimp[go_sem,p1,ck];refine Za (λ p2=>?_) (λ p2=>?_)<;>simp at p2
  ·unfold Zai.b11_2;refine Zi (ZZ36 y1) ?_;rintro _ _ ⟨rfl,rfl⟩;simp -dsimp[go_sem];refine Za (λ p3=>?_) (λ p3=>?_)<;>simp at p3
   ·obtain ⟨n,rfl⟩:∃n:Nat,x=n:=⟨x.toNat,by omega⟩;have hn:n<size:=by omega
    obtain ⟨u,hu,hu64,hul,hbu⟩:=hok.at hn;unfold Zai.b11_1;simp -dsimp[go_sem,y0];refine Zi (ZZ179 hul (by omega) hu64 (yc _ _ hu)) ?_;rintro _ _ ⟨rfl,rfl⟩;rw[<-hbu];unfold Zai.b12
    cases hbn:Bit ws2 n with
    | true=>
     simp -dsimp[go_sem];refine skip λ m=>?_;rw[hb,et,Qk,Qg];constructor
     ·rintro (h|⟨h1,h2⟩)
      ·exact Or.inl h
      ·exact Or.inr ⟨Or.inl h1,h2⟩
     ·rintro (h|⟨h1|h1,h2⟩)
      ·exact Or.inl h
      ·exact Or.inr ⟨h1,h2⟩
      ·have:m=n:=by omega
       subst this;exact (hb m).1 hbn
    | false=>
     have wc:=wS c (by omega);simp -dsimp[go_sem];unfold Zai.b12_1;simp -dsimp[go_sem,y0];refine Zi (ZZ139 hul (by omega) hu64 (yc _ _ hu) (yf _)) ?_;rintro _ _ rfl;have s3:=(s2.setPut k hkS (n / 64) _ (hok.put hn hu));rw[Qbe]at s3;have s4:=s3.old (Chg.refl noB _).drew;have hput:=λ m=>Zu0 hu m;have hfp:=Zws hn hbn hput;unfold Zai.b9;simp -dsimp[go_sem,wc,wi];refine hC _ _ _ ⟨c+1,i+1,_,by simp,by simp,by omega,λ m=>?_,by omega,s4⟩ (by simp[iv];omega);rw[hput,et,Qk,Qg,Qbl,decide_eq_true_eq,hb];constructor
     ·rintro ((h|⟨h1,h2⟩)|rfl)
      ·exact Or.inl h
      ·exact Or.inr ⟨Or.inl h1,h2⟩
      ·exact Or.inr ⟨Or.inr rfl,hn⟩
     ·rintro (h|⟨h1|h1,h2⟩)
      ·exact Or.inl (Or.inl h)
      ·exact Or.inl (Or.inr ⟨h1,h2⟩)
      ·exact Or.inr (by omega)
   ·unfold Zai.b12;simp -dsimp[go_sem];refine skip λ m=>?_;rw[hb,et,Qk,Qg];constructor
    ·rintro (h|⟨h1,h2⟩)
     ·exact Or.inl h
     ·exact Or.inr ⟨Or.inl h1,h2⟩
    ·rintro (h|⟨h1|h1,h2⟩)
     ·exact Or.inl h
     ·exact Or.inr ⟨h1,h2⟩
     ·omega
  ·unfold Zai.b12;simp -dsimp[go_sem];refine skip λ m=>?_;rw[hb,et,Qk,Qg];constructor
   ·rintro (h|⟨h1,h2⟩)
    ·exact Or.inl h
    ·exact Or.inr ⟨Or.inl h1,h2⟩
   ·rintro (h|⟨h1|h1,h2⟩)
    ·exact Or.inl h
    ·exact Or.inr ⟨h1,h2⟩
    ·omega
 ·have:i=ms.length:=by omega
  subst this;rw[Qm]at hb;unfold Zai.b3;exact hR _ _ ⟨c,ws2,rfl,hb,hf,s2⟩
open Go.Px.Scan
attribute [-go_sem] Builtin.append_
structure GRd (w:World)(B q:Nat)(g:Gr)(A1:Option Addr)(c1:Nat)(A2:Option Addr)(c2:Nat)(A3:Option Addr)(c3:Nat)(A4:Option Addr)(c4:Nat):Prop where
 k:(w.cell? ⟨q,0,none⟩=some (.slice A1 g.terms.length c1)/\w.cell? ⟨q,1,none⟩=some (.slice A2 g.nons.length c2)/\w.cell? ⟨q,2,none⟩=some (.slice A3 g.levels.length c3)/\w.cell? ⟨q,3,none⟩=some (.int .i64 g.start)/\w.cell? ⟨q,4,none⟩=some (.slice A4 g.prods.length c4))
 r1:(Zq Zsq).at1 w B (.slice A1 g.terms.length c1) g.terms
 r2:(Zq rStr).at1 w B (.slice A2 g.nons.length c2) g.nons
 r3:(Zq rInt).at1 w B (.slice A3 g.levels.length c3) g.levels
 r4:(Zq rPr).at1 w B (.slice A4 g.prods.length c4) g.prods
 sz:B<=w.heap.size
theorem Zbg {w:World}{B:Nat}{v:Value}{g:Gr}(h:Zb7.atN w B v g)(hB:B<=w.heap.size):∃A1 c1 A2 c2 A3 c3 A4 c4,v = .agg (gQ A1 c1 A2 c2 A3 c3 A4 c4 g) /\
  (g.terms.length<=maxLen/\g.nons.length<=maxLen/\g.levels.length<=maxLen/\g.prods.length<=maxLen)/\Zdf g.start/\Chg noB w (w.alloc (.cells (gQ A1 c1 A2 c2 A3 c3 A4 c4 g) 27)) /\
  ∀w',Chg noB (w.alloc (.cells (gQ A1 c1 A2 c2 A3 c3 A4 c4 g) 27)) w'->GRd w' B w.heap.size g A1 c1 A2 c2 A3 c3 A4 c4:=by
 obtain ⟨A1,c1,A2,c2,A3,c3,A4,c4,rfl,h1,h2,h3,h4,h5,⟨l1,m1⟩,⟨l2,m2⟩,⟨l3,m3⟩,⟨l4,m4⟩⟩:=(Zcg h).ex;have h0:=(St.refl noB w).alloc (gQ A1 c1 A2 c2 A3 c3 A4 c4 g) 27;refine ⟨A1,c1,A2,c2,A3,c3,A4,c4,rfl,⟨by omega,by omega,by omega,by omega⟩,h4,h0.chg,λ w' hc=>?_⟩;have h1':=h0.old hc;have k0:=h1'.box 0 rfl;simp[Zw]at k0;have hbl:=h1'.chg.below hB λ _ _=>id;exact ⟨k0.1,Rep.below h1 hbl,Rep.below h2 hbl,Rep.below h3 hbl,Rep.below h5 hbl,by have:=h1'.chg.size;omega⟩
theorem Zej {w:World}{B:Nat}{v:Value}{g:Gr}(h:Zb7.atN w B v g)(hB:B<=w.heap.size)(hs:g.terms.length+g.nons.length<=1000):Ct Tryz.prog Zb5.id #[v] w λ r w'=>r = .int .i64 ((g.terms.length:Int)+g.nons.length)/\Chg noB w w':=by
 refine Zb5.ct λ R hR=>?_;obtain ⟨A1,c1,A2,c2,A3,c3,A4,c4,rfl,_,_,hc0,hg⟩:=Zbg h hB;unfold Zb5.run;have ws:IntKind.i64.wrap ((g.terms.length:Int)+g.nons.length)=(g.terms.length:Int)+g.nons.length:=IntWalk.i64_in _ (by omega);simp -dsimp[go_sem,ws];exact hR _ _ ⟨rfl,hc0⟩
theorem Zkf {a b:ByteArray}:a.toList=b.toList↔a=b:=by
 constructor
 ·intro h;rw[ByteArray.toList_eq,ByteArray.toList_eq]at h;exact Zoj h
 ·rintro rfl;rfl
def Zre (g:Gr):Prop:=g.terms.head?=some (⟨#[]⟩,0)/\(∀t∈g.terms.tail,Zoi g t)/\(g.terms.tail.map (·.1)).Nodup
open Classical in
noncomputable def Zv8 (g:Gr):Bool:=decide (Zre g)
theorem Zf9 {g:Gr}:Zv8 g=true↔Zre g:=@decide_eq_true_iff _ (_)
theorem Zo1 {w:World}{B:Nat}{v:Value}{g:Gr}(h:Zb7.atN w B v g)(hB:B<=w.heap.size):Ct Tryz.prog Zcx.id #[v] w λ r w'=>r = .bool (Zv8 g)/\Chg noB w w':=by
 refine Zcx.ct λ R hR=>?_;obtain ⟨A1,c1,A2,c2,A3,c3,A4,c4,rfl,⟨m1,m2,m3,m4⟩,_,hc0,hg⟩:=Zbg h hB;have no:∀w',Chg noB w w'->¬Zre g->R (.returned (.bool false)) w':=λ w' hc hn=>hR _ _ ⟨by rw[Zeg Zf9 hn],hc⟩;unfold Zcx.run;simp -dsimp[go_sem];generalize w.alloc (.cells (gQ A1 c1 A2 c2 A3 c3 A4 c4 g) 27)=w1 at hc0 hg |-;generalize w.heap.size=q at hg |-;have z1:=hg w1 (Chg.refl _ _);refine Za (λ q1=>?_) (λ q1=>?_)<;>simp at q1
 ·simp -dsimp[go_sem];exact no _ hc0 λ hs=>by have:=hs.1;rw[q1]at this;cases this
 have q1':0<g.terms.length:=Qa6.2 q1;obtain ⟨b1,o1,rfl,hb1,d1,d2,_,_⟩:=Ze0 z1.r1 q1';simp at d1 d2;have hh:g.terms.head?=some g.terms[0]:=by rw[Qa7,Qb q1']
 simp -dsimp[go_sem,z1.k,q1',d1,d2];refine Za (λ q2=>?_) (λ q2=>?_)<;>simp at q2
 ·simp -dsimp[go_sem];refine no _ hc0 λ hs=>q2 ?_;have:=hs.1;rw[hh]at this;injection this with this;rw[this,ByteArray.toList_eq]
 simp -dsimp[go_sem,z1.k,q1',d1,d2];refine Za (λ q3=>?_) (λ q3=>?_)<;>simp at q3
 ·refine no _ hc0 λ hs=>q3 ?_;have:=hs.1;rw[hh]at this;injection this with this;rw[this]
 have ht0:g.terms.head?=some (⟨#[]⟩,0):=by
  rw[hh];congr 1;exact Prod.ext (Zoj (by rw[<-ByteArray.toList_eq];exact q2)) q3
 obtain ⟨t0,tl,hE⟩:∃t tl,g.terms=t::tl:=by
  cases e:g.terms with
  | nil=>exact absurd e q1
  | cons t r=>exact ⟨t,r,rfl⟩
 have hlen:g.terms.length=tl.length+1:=by rw[hE];rfl
 have htl:g.terms.tail=tl:=by rw[hE];rfl
 have hel:∀i (hi:i<tl.length),g.terms[i+1]'(by omega)=tl[i]:=λ i hi=>by simp[hE]
 simp -dsimp[go_sem];refine Zcx.l7_intro _ _ _ _ (λ y w'=>∃j k:Nat,y = .int .i64 j/\j=k+1/\k<=tl.length/\Chg noB w1 w'/\(∀t∈tl.take k,Zoi g t)/\((tl.take k).map (·.1)).Nodup) (λ y _=>tl.length+1-iv y) ⟨1,0,rfl,rfl,by omega,Chg.refl _ _,by simp,by simp⟩ ?_;rintro _ w2 ⟨j,k,rfl,hj,hk,hcw,hall,hnd⟩ C hC;have z2:=hg w2 hcw;simp -dsimp[go_sem,z2.k];refine Za (λ p1=>?_) (λ p1=>?_)<;>simp at p1
 ·have hk1:k<tl.length:=by omega
  obtain ⟨b2,o2,e2,hb2,f1,f2,f3,f4⟩:=Ze0 z2.r1 p1;injection e2 with e2;injection e2 with e2 e3;subst e2 e3;have hej:g.terms[j]=tl[k]:=by subst hj;exact hel k hk1
  rw[hej]at f1 f2 f3 f4;have bad:¬Zoi g tl[k]->¬Zre g:=λ hn hs=>hn (hs.2.1 _ (by rw[htl];exact Qj hk1));simp -dsimp[go_sem,z2.k,p1,f1];refine Zi (Zkv f3 w2) ?_;rintro _ _ ⟨rfl,rfl⟩;have hcd:=hcw.drew;have zd:=hg _ hcd;obtain ⟨b3,o3,e3,hb3,f1',f2',_,_⟩:=Ze0 zd.r1 p1;injection e3 with e3;injection e3 with e3 e4;subst e3 e4;rw[hej]at f1' f2'
  cases hT:tmB tl[k].1 with
  | false=>
   simp -dsimp[go_sem];exact no _ (hc0.trans hcd) (bad λ hs=>by rw[Zg3.2 hs.name]at hT;cases hT)
  | true=>
   simp -dsimp[go_sem,zd.k,p1,f1',f2'];refine Za (λ p2=>?_) (λ p2=>?_)<;>simp at p2
   ·simp -dsimp[go_sem];exact no _ (hc0.trans hcd) (bad λ hs=>by have:=hs.lo;omega)
   simp -dsimp[go_sem,zd.k,p1,f1',f2'];refine Za (λ p3=>?_) (λ p3=>?_)<;>simp at p3
   ·exact no _ (hc0.trans hcd) (bad λ hs=>by have:=hs.hi;omega)
   simp -dsimp[go_sem];refine Zcx.l16_intro _ _ _ _ _ _ (λ y w'=>∃i n:Nat,y = .int .i64 i/\i=n+1/\n<=k/\Chg noB w1 w'/\∀t∈tl.take n,t.1≠tl[k].1) (λ y _=>k+1-iv y) ⟨1,0,rfl,rfl,by omega,hcd,by simp⟩ ?_;rintro _ w3 ⟨i,n,rfl,hi,hn,hc3,hne⟩ C' hC';simp -dsimp[go_sem];refine Za (λ p4=>?_) (λ p4=>?_)<;>simp at p4
   ·have hn1:n<tl.length:=by omega
    have hil:i<g.terms.length:=by omega
    have z3:=hg _ hc3.drew;obtain ⟨b4,o4,e4,hb4,x1,_⟩:=Ze0 z3.r1 p1;injection e4 with e4;injection e4 with e4 e5;subst e4 e5;obtain ⟨b5,o5,e5,hb5,y1,_⟩:=Ze0 z3.r1 hil;injection e5 with e5;injection e5 with e5 e6;subst e5 e6;have hei:g.terms[i]=tl[n]:=by subst hi;exact hel n hn1
    rw[hej]at x1;rw[hei]at y1;have wi:IntKind.i64.wrap ((i:Int)+1)=(i:Int)+1:=IntWalk.i64_in _ (by unfold maxLen at m1;omega);simp -dsimp[go_sem,z3.k,p1,hil,x1,y1];refine Za (λ p5=>?_) (λ p5=>?_)<;>simp at p5
    ·refine no _ (hc0.trans hc3.drew) λ hs=>?_;have:=Qt.1 hs.2.2 n k (by simp[htl];omega) (by simp[htl];omega) (by omega);simp[htl]at this;exact this (Zkf.1 p5)
    ·simp -dsimp[go_sem,wi];refine hC' _ _ ⟨i+1,n+1,by simp,by omega,by omega,hc3.drew,λ t ht=>?_⟩ (by simp[iv];omega);rw[Qd hn1]at ht;rcases Qk.1 ht with ht|ht
     ·exact hne t ht
     ·rw[Qg.1 ht];exact λ e=>p5 (by rw[e])
   ·have hnk:n=k:=by omega
    subst hnk;have wj:IntKind.i64.wrap ((j:Int)+1)=(j:Int)+1:=IntWalk.i64_in _ (by unfold maxLen at m1;omega);simp -dsimp[go_sem,wj];have htk:tl.take (n+1)=tl.take n++[tl[n]]:=Qd hk1;refine hC _ _ ⟨j+1,n+1,by simp,by omega,by omega,hc3,λ t ht=>?_,?_⟩ (by simp[iv];omega)
    ·rw[htk]at ht;rcases Qk.1 ht with ht|ht
     ·exact hall t ht
     ·rw[Qg.1 ht];exact ⟨Zg3.1 hT,by omega,by omega⟩
    ·rw[htk,Qu];refine Qak.2 ⟨hnd,by simp,λ a ha b hb=>?_⟩;obtain ⟨t,ht,rfl⟩:=Qr.1 ha;simp at hb;subst hb;exact hne t ht
 ·have hka:k=tl.length:=by omega
  subst hka;rw[Qm]at hall hnd;simp -dsimp[go_sem];refine hR _ _ ⟨?_,hc0.trans hcw⟩;rw[Zf9.2 ⟨ht0,by rw[htl];exact hall,by rw[htl];exact hnd⟩]
def Zjz (g:Gr):Prop:=∀i (h:i<g.levels.length),1<=g.levels[i]/\g.levels[i]<=3/\∃t∈g.terms,t.2=(i:Int)+1
open Classical in
noncomputable def Zp0 (g:Gr):Bool:=decide (Zjz g)
theorem Zha {g:Gr}:Zp0 g=true↔Zjz g:=@decide_eq_true_iff _ (_)
theorem Zn4 {w:World}{B:Nat}{v:Value}{g:Gr}(h:Zb7.atN w B v g)(hB:B<=w.heap.size):Ct Tryz.prog Zco.id #[v] w λ r w'=>r = .bool (Zp0 g)/\Chg noB w w':=by
 refine Zco.ct λ R hR=>?_;obtain ⟨A1,c1,A2,c2,A3,c3,A4,c4,rfl,⟨m1,m2,m3,m4⟩,_,hc0,hg⟩:=Zbg h hB;have no:∀w',Chg noB w w'->¬Zjz g->R (.returned (.bool false)) w':=λ w' hc hn=>hR _ _ ⟨by rw[Zeg Zha hn],hc⟩;unfold Zco.run;simp -dsimp[go_sem];generalize w.alloc (.cells (gQ A1 c1 A2 c2 A3 c3 A4 c4 g) 27)=w1 at hc0 hg |-;generalize w.heap.size=q at hg |-;refine Zco.l6_intro _ _ _ _ (λ y w'=>∃k:Nat,y = .int .i64 k/\k<=g.levels.length/\Chg noB w1 w'/\∀i (h:i<g.levels.length),i<k->1<=g.levels[i]/\g.levels[i]<=3/\∃t∈g.terms,t.2=(i:Int)+1) (λ y _=>g.levels.length-iv y) ⟨0,rfl,by omega,Chg.refl _ _,λ i h h0=>by omega⟩ ?_;rintro _ w2 ⟨k,rfl,hk,hcw,hall⟩ C hC;have z2:=hg w2 hcw;simp -dsimp[go_sem,z2.k];refine Za (λ p1=>?_) (λ p1=>?_)<;>simp at p1
 ·have wk:IntKind.i64.wrap ((k:Int)+1)=(k:Int)+1:=IntWalk.i64_in _ (by unfold maxLen at m3;omega);simp -dsimp[go_sem];refine Zco.l17_intro _ _ _ _ _ _ _ (λ x y w'=>∃(j:Nat) (b:Bool),y = .int .i64 j/\x = .bool b/\j<=g.terms.length/\Chg noB w1 w'/\(b=true↔∃t∈g.terms.take j,t.2=(k:Int)+1)) (λ _ y _=>g.terms.length-iv y) ⟨0,false,rfl,rfl,by omega,hcw,by simp⟩ ?_;rintro _ _ w3 ⟨j,b,rfl,rfl,hj,hc3,hb⟩ C' hC';have z3:=hg w3 hc3;simp -dsimp[go_sem,z3.k];refine Za (λ p2=>?_) (λ p2=>?_)<;>simp at p2
  ·have wj:IntKind.i64.wrap ((j:Int)+1)=(j:Int)+1:=IntWalk.i64_in _ (by unfold maxLen at m1;omega);have htk:g.terms.take (j+1)=g.terms.take j++[g.terms[j]]:=Qd p2;obtain ⟨b4,o4,rfl,hb4,x1,x2,_⟩:=Ze0 z3.r1 p2;have mem:(∃t∈g.terms.take (j+1),t.2=(k:Int)+1)↔(∃t∈g.terms.take j,t.2=(k:Int)+1)\/g.terms[j].2=(k:Int)+1:=by
    rw[htk];constructor
    ·rintro ⟨t,ht,e⟩;rcases Qk.1 ht with ht|ht
     ·exact Or.inl ⟨t,ht,e⟩
     ·rw[Qg.1 ht]at e;exact Or.inr e
    ·rintro (⟨t,ht,e⟩|e)
     ·exact ⟨t,Q0 _ ht,e⟩
     ·exact ⟨_,Qa2 _ (Qg.2 rfl),e⟩
   cases b with
   | true=>
    simp -dsimp[go_sem,wj];refine hC' _ _ _ ⟨j+1,true,by simp,rfl,by omega,hc3,?_⟩ (by simp[iv];omega);rw[mem];exact ⟨λ _=>Or.inl (hb.1 rfl),λ _=>rfl⟩
   | false=>
    simp -dsimp[go_sem,z3.k,p2,x1,x2,wj,wk];refine hC' _ _ _ ⟨j+1,_,by simp,rfl,by omega,hc3,?_⟩ (by simp[iv];omega);rw[mem,beq_iff_eq];constructor
    ·exact Or.inr
    ·rintro (h1|h1)
     ·exact absurd (hb.2 h1) (by simp)
     ·exact h1
  ·have hja:j=g.terms.length:=by omega
   subst hja;rw[Qm]at hb;have bad:¬(1<=g.levels[k]/\g.levels[k]<=3/\∃t∈g.terms,t.2=(k:Int)+1)->¬Zjz g:=λ hn hs=>hn (hs k p1)
   cases b with
   | false=>
    simp -dsimp[go_sem];exact no _ (hc0.trans hc3) (bad λ hs=>by have:=hb.2 hs.2.2;cases this)
   | true=>
    obtain ⟨b5,o5,rfl,hb5,y1,_⟩:=Go.Px.ints_at z3.r3 p1;simp -dsimp[go_sem,z3.k,p1,y1];refine Za (λ p3=>?_) (λ p3=>?_)<;>simp at p3
    ·simp -dsimp[go_sem];exact no _ (hc0.trans hc3) (bad λ hs=>by omega)
    simp -dsimp[go_sem,z3.k,p1,y1];refine Za (λ p4=>?_) (λ p4=>?_)<;>simp at p4
    ·exact no _ (hc0.trans hc3) (bad λ hs=>by omega)
    simp -dsimp[go_sem,wk];refine hC _ _ ⟨k+1,by simp,by omega,hc3,λ i hi hik=>?_⟩ (by simp[iv];omega);by_cases e:i=k
    ·subst e;exact ⟨by omega,by omega,hb.1 rfl⟩
    ·exact hall i hi (by omega)
 ·simp -dsimp[go_sem];refine hR _ _ ⟨?_,hc0.trans hcw⟩;rw[Zha.2 λ i hi=>hall i hi (by omega)]
def Zx9 (g:Gr)(a:Nat):Prop:=(g.nons.drop a).Nodup/\∀s∈g.nons.drop a,Zh5 s
open Classical in
noncomputable def ZZ28 (g:Gr)(a:Nat):Bool:=decide (Zx9 g a)
theorem Zj9 {g:Gr}{a:Nat}:ZZ28 g a=true↔Zx9 g a:=@decide_eq_true_iff _ (_)
theorem Zst {w:World}{B:Nat}{v:Value}{g:Gr}(h:Zb7.atN w B v g)(hB:B<=w.heap.size)(a:Nat)(ha:a<=1):Ct Tryz.prog Zc2.id #[v,.int .i64 a] w λ r w'=>r = .bool (ZZ28 g a)/\Chg noB w w':=by
 refine Zc2.ct λ R hR=>?_;obtain ⟨A1,c1,A2,c2,A3,c3,A4,c4,rfl,⟨m1,m2,m3,m4⟩,_,hc0,hg⟩:=Zbg h hB;have no:∀w',Chg noB w w'->¬Zx9 g a->R (.returned (.bool false)) w':=λ w' hc hn=>hR _ _ ⟨by rw[Zeg Zj9 hn],hc⟩;unfold Zc2.run;simp -dsimp[go_sem];generalize w.alloc (.cells (gQ A1 c1 A2 c2 A3 c3 A4 c4 g) 27)=w1 at hc0 hg |-;generalize w.heap.size=q at hg |-;generalize hE:g.nons.drop a=nl;have hnl:nl.length=g.nons.length-a:=by rw[<-hE];simp
 have hel:∀i (hi:i<nl.length),g.nons[a+i]'(by omega)=nl[i]:=λ i hi=>by simp[<-hE]
 refine Zc2.l6_intro _ _ _ _ _ (λ y w'=>∃j k:Nat,y = .int .i64 j/\j=a+k/\(k<=nl.length)/\Chg noB w1 w'/\(nl.take k).Nodup/\∀s∈nl.take k,Zh5 s) (λ y _=>g.nons.length+a-iv y) ⟨a,0,rfl,rfl,by omega,Chg.refl _ _,by simp,by simp⟩ ?_;rintro _ w2 ⟨j,k,rfl,hj,hk,hcw,hnd,hall⟩ C hC;have z2:=hg w2 hcw;simp -dsimp[go_sem,z2.k];refine Za (λ p1=>?_) (λ p1=>?_)<;>simp at p1
 ·have hk1:k<nl.length:=by omega
  obtain ⟨b4,o4,rfl,hb4,x1,x2⟩:=Go.Px.strs_at z2.r2 p1;have hej:g.nons[j]=nl[k]:=by subst hj;exact hel k hk1
  rw[hej]at x1 x2;have wj:IntKind.i64.wrap ((j:Int)+1)=(j:Int)+1:=IntWalk.i64_in _ (by unfold maxLen at m2;omega);simp -dsimp[go_sem,z2.k,p1,x1];refine Zi (Zjy x2 w2) ?_;rintro _ _ ⟨rfl,rfl⟩
  cases hT:nmB nl[k]with
  | false=>
   simp -dsimp[go_sem];exact no _ (hc0.trans hcw) λ hs=>by rw[Zg5.2 (hs.2 _ (by rw[hE];exact Qj hk1))]at hT;cases hT
  | true=>
   simp -dsimp[go_sem];refine Zc2.l13_intro _ _ _ _ _ _ (λ y w'=>∃i n:Nat,y = .int .i64 i/\i=a+n/\n<=k/\Chg noB w1 w'/\∀s∈nl.take n,s≠nl[k]) (λ y _=>a+k-iv y) ⟨a,0,rfl,rfl,by omega,hcw,by simp⟩ ?_;rintro _ w3 ⟨i,n,rfl,hi,hn,hc3,hne⟩ C' hC';simp -dsimp[go_sem];refine Za (λ p4=>?_) (λ p4=>?_)<;>simp at p4
   ·have hn1:n<nl.length:=by omega
    have hil:i<g.nons.length:=by omega
    have z3:=hg _ hc3.drew;obtain ⟨b5,o5,e4,hb5,y1,_⟩:=Go.Px.strs_at z3.r2 p1;injection e4 with e4;injection e4 with e4 e5;subst e4 e5;obtain ⟨b6,o6,e4,hb6,y2,_⟩:=Go.Px.strs_at z3.r2 hil;injection e4 with e4;injection e4 with e4 e5;subst e4 e5;have hei:g.nons[i]=nl[n]:=by subst hi;exact hel n hn1
    rw[hej]at y1;rw[hei]at y2;have wi:IntKind.i64.wrap ((i:Int)+1)=(i:Int)+1:=IntWalk.i64_in _ (by unfold maxLen at m2;omega);simp -dsimp[go_sem,z3.k,p1,hil,y1,y2];refine Za (λ p5=>?_) (λ p5=>?_)<;>simp at p5
    ·refine no _ (hc0.trans hc3.drew) λ hs=>?_;have h9:=hs.1;rw[hE]at h9;exact Qt.1 h9 n k hn1 hk1 (by omega) (Zkf.1 p5)
    ·simp -dsimp[go_sem,wi];refine hC' _ _ ⟨i+1,n+1,by simp,by omega,by omega,hc3.drew,λ t ht=>?_⟩ (by simp[iv];omega);rw[Qd hn1]at ht;rcases Qk.1 ht with ht|ht
     ·exact hne t ht
     ·rw[Qg.1 ht];exact λ e=>p5 (by rw[e])
   ·have hnk:n=k:=by omega
    subst hnk;simp -dsimp[go_sem,wj];have htk:nl.take (n+1)=nl.take n++[nl[n]]:=Qd hk1;refine hC _ _ ⟨j+1,n+1,by simp,by omega,by omega,hc3,?_,λ t ht=>?_⟩ (by simp[iv];omega)
    ·rw[htk];refine Qak.2 ⟨hnd,by simp,λ x hx y hy=>?_⟩;rw[Qg.1 hy];exact hne x hx
    ·rw[htk]at ht;rcases Qk.1 ht with ht|ht
     ·exact hall t ht
     ·rw[Qg.1 ht];exact Zg5.1 hT
 ·have hka:k=nl.length:=by omega
  subst hka;rw[Qm]at hall hnd;simp -dsimp[go_sem];refine hR _ _ ⟨?_,hc0.trans hcw⟩;rw[Zj9.2 (by unfold Zx9;rw[hE];exact ⟨hnd,hall⟩)]
theorem Zn5 {w:World}{B:Nat}{v:Value}{l:List ByteArray}(h:(Zq rStr).at1 w B v l)(hB:B<=w.heap.size):Ct Tryz.prog Zdp.id #[v] w λ r w'=>r = .bool (decide l.Nodup)/\Chg noB w w':=by
 refine Zdp.ct λ R hR=>?_;obtain ⟨A,c,rfl,hl,hm,_⟩:=Zz h;unfold Zdp.run;simp -dsimp[go_sem,mkStr];have h0:=(St.refl noB w).map Tryz.prog kStr 9 3;generalize hq:w.heap.size=q at h0 |-;generalize w.alloc (.map #[] 0)=w1 at h0 |-;refine Zdp.l6_intro _ _ _ _ _ _ _ (λ x w1=>∃(k n:Nat) (f:ByteArray->Int),x = .int .i64 k/\k<=l.length/\St noB w w1 [mapC Tryz.prog kStr 9 3 (.map (some q)) n f]/\n<=k/\(n=k↔(l.take k).Nodup)/\(∀s,f s≠0↔s∈l.take k)/\∀s,0<=f s/\f s<=k) (λ x _=>l.length-iv x) ⟨0,0,_,rfl,by omega,h0,by omega,by simp,by simp,by simp⟩ ?_;rintro _ w1 ⟨k,n,f,rfl,hk,hst,hn,hnd,hmem,hf⟩ C hC;simp -dsimp[go_sem];refine Za (λ h2=>?_) (λ h2=>?_)<;>simp at h2
 ·obtain ⟨b1,o1,rfl,hb1,hc1,hr1⟩:=Go.Px.strs_at (Rep.below h (hst.chg.below hB λ _ _=>id)) h2;have wk:=Zcv h2 (Qav hl hm);have hg:(Instr.lookup 84 (.map (some q)) (.string l[k]) false).run Tryz.prog w1=_:=hst.mapGet mStr 0 rfl l[k] hr1;have hfk:=hf l[k];have hkm:k<maxLen:=by omega
  have wf:IntKind.i64.wrap (f l[k]+1)=f l[k]+1:=IntWalk.i64_in _ (by unfold maxLen at hkm;omega);obtain ⟨w2,hrun,hst2⟩:=hst.mapSet mStr 0 rfl l[k] hr1 (by omega) (x:=f l[k]+1) (by unfold Zdf;unfold maxLen at hkm;omega) (by omega);have hrun':(Instr.mapUpdate 84 (.map (some q)) (.string l[k]) (.int .i64 (f l[k]+1))).run Tryz.prog w1=_:=hrun;simp -dsimp[go_sem,h2,hc1,hg,wf,hrun',wk];have htk:l.take (k+1)=l.take k++[l[k]]:=Qd h2;refine hC _ _ ⟨k+1,_,_,by simp,by omega,hst2,?_,?_,?_,?_⟩ (by simp[iv];omega)
  ·split<;>omega
  ·rw[htk];by_cases h0:f l[k]=0
   ·have hno:l[k]∉l.take k:=λ hm=>(hmem l[k]).2 hm h0;rw[if_pos h0];constructor
    ·intro e;refine Qak.2 ⟨hnd.1 (by omega),by simp,λ a ha b hb e'=>?_⟩;simp at hb;subst hb;subst e';exact hno ha
    ·intro hd;have:=hnd.2 (Qak.1 hd).1;omega
   ·rw[if_neg h0];have hyes:=(hmem l[k]).1 h0;constructor
    ·intro e;omega
    ·intro hd;exact absurd rfl ((Qak.1 hd).2.2 _ hyes _ (by simp))
  ·intro s;rw[htk];by_cases hs:s=l[k]
   ·subst hs;simp only[if_true,Qk,Qg,or_true,iff_true];have:=hf l[k];omega
   ·simp only[if_neg hs,Qk,Qg,hs,or_false];exact hmem s
  ·intro s;have:=hf s;by_cases hs:s=l[k]
   ·simp only[if_pos hs];omega
   ·simp only[if_neg hs];omega
 ·have hka:k=l.length:=by omega
  subst hka;rw[Qm]at hnd;obtain ⟨F,ho,_⟩:=hst.get (k:=0) rfl;have hlen:=ho.1.len mStr 3;simp -dsimp[go_sem,hlen];refine hR _ _ ⟨?_,hst.chg⟩;congr 1;refine decide_eq_decide.2 ?_;rw[<-hnd];omega
end Go.Proofs.YtjibcckpehdbhaaGreatDoor
