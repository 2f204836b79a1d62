/-
  Texts of this claim: ScSpec, ScSpec2, ScSpec3, Gm1, Gw0, Gs1, Gs2, GwA, T02Ty, Tc1, Tc2, Tc3, Lz1.
-/
import Derived.Test.YtmoepnfobnpdiaaY02
import Derived.Lib.IndexLaws
import Derived.Test.YtmoepnfobnpdiaaY04
import Derived.Lib.OthersKept
import Derived.Laws.RangeAny
import Derived.Test.YtmoepnfobnpdiaaRows
import Derived.WalkKit
import Derived.ProofKit
import Derived.OpenShut
import Derived.Deep.DeepHandedRow
import Derived.Deep.DeepWitnessRowRef
import Derived.Test.YtmoepnfobnpdiaaY05
import Derived.Shelf.SlSortCmp.WholeK
set_option maxHeartbeats 1000000
set_option linter.unusedSimpArgs false
set_option linter.unusedVariables false
set_option maxRecDepth 100000
/-
  What the words of a text are: plain Lean, no program in sight.
-/
namespace Go.Px.Scan
open Go.Px

def letterN (c:Nat):Bool:=decide (65≤c∧c≤90∨97≤c∧c≤122)
def innerN (c:Nat):Bool:=letterN c || decide (c=95∨48≤c∧c≤57)
def plainN (c:Nat):Bool:=decide (32≤c∧c≤126∧c≠39)

def ordersL:List ByteArray:=[⟨#[37,108,101,102,116]⟩,⟨#[37,110,111,110,97,115,115,111,99]⟩,⟨#[37,110,111,110,101]⟩,⟨#[37,112,114,101,99]⟩,
 ⟨#[37,114,105,103,104,116]⟩,⟨#[37,115,116,97,114,116]⟩,⟨#[37,116,111,107,101,110]⟩]

def whole (p:ByteArray):Bool:=ordersL.any fun o=>p.toList == o.toList

inductive One where
 | word (kind:Nat) (a b next:Nat)
 | bad (k:Nat)

end Go.Px.Scan

/-
  Skipping, by the places of newlines.
-/
namespace Go.Px

end Go.Px

namespace Go.Px.Scan
open Go.Px

end Go.Px.Scan

/-
  Names and terminals' texts, and what they are to the words.
-/
namespace Go.Px.Scan
open Go.Px

def NameP (s:ByteArray):Prop:=0<s.size∧s.size≤16∧(letterN (bt s 0) || decide (bt s 0=95))=true∧∀i,i<s.size→innerN (bt s i)=true
def TermP (s:ByteArray):Prop:=0<s.size∧s.size≤16∧∀i,i<s.size→plainN (bt s i)=true

theorem inner_plain {c:Nat} (h:innerN c=true):plainN c=true:=by
 simp [innerN,letterN,plainN] at *;omega
theorem NameP.term {s:ByteArray} (h:NameP s):TermP s:=⟨h.1,h.2.1,fun i hi=>inner_plain (h.2.2.2 i hi)⟩

theorem bs_ext {a b:ByteArray} (h:a.data.toList=b.data.toList):a=b:=by
 cases a;cases b;simp at h;cases h;rfl

/-! ### A text in quotes -/
def quo (s:ByteArray):ByteArray:=(⟨#[39]⟩++s)++⟨#[39]⟩
end Go.Px.Scan

/-
  Names and terminals' texts in package gram and in the document's answer.
-/
namespace Go.Px.Scan
open Classical in
noncomputable def nmB (s:ByteArray):Bool:=decide (NameP s)
open Classical in
noncomputable def tmB (s:ByteArray):Bool:=decide (TermP s)
theorem nmB_iff {s:ByteArray}:nmB s=true↔NameP s:=@decide_eq_true_iff _ (_)
theorem tmB_iff {s:ByteArray}:tmB s=true↔TermP s:=@decide_eq_true_iff _ (_)
theorem nmB_no {s:ByteArray} (h:¬NameP s):nmB s=false:=by rw [Bool.eq_false_iff];exact fun h'=>h (nmB_iff.1 h')
theorem tmB_no {s:ByteArray} (h:¬TermP s):tmB s=false:=by rw [Bool.eq_false_iff];exact fun h'=>h (tmB_iff.1 h')
end Go.Px.Scan

namespace Go.Proofs.Ytmoepnfobnpdiaa
open Go.Px Go.Px.Scan Go.RowKit

theorem bytes_of {p:Nat→Prop} (h:∀c:Fin 256,p c.val) (c:Nat) (hc:c<256):p c:=h ⟨c,hc⟩
theorem or32 (c:Nat) (hc:c<256):(decide (97≤bits BinOp.or IntKind.u8 (c:Int) 32) && decide (bits BinOp.or IntKind.u8 (c:Int) 32≤122))=letterN c :=
 bytes_of (p:=fun c=>(decide (97≤bits BinOp.or IntKind.u8 (c:Int) 32) && decide (bits BinOp.or IntKind.u8 (c:Int) 32≤122))=letterN c) (by decide +kernel) c hc

theorem isTerm1_ct (r:Int) (w:World):Ct Try.prog gram_isTerm_1.id #[.int .i32 r] w fun v w'=>v = .bool (decide (r<32∨126<r∨r=39))∧w=w':=by
 refine gram_isTerm_1.ct fun R hR=>?_
 unfold gram_isTerm_1.run gram_isTerm_1.b1
 simp [go_sem]
 refine SPL_intro (fun h=>?_) (fun h=>?_) <;> simp at h
 ·exact hR _ _ ⟨by simp [h],rfl⟩
 ·simp [go_sem]
  refine SPL_intro (fun h2=>?_) (fun h2=>?_) <;> simp at h2
  ·exact hR _ _ ⟨by simp [h2],rfl⟩
  ·simp [go_sem]
   refine hR _ _ ⟨?_,rfl⟩
   congr 1
   rw [Bool.eq_iff_iff]
   simp
   omega

theorem chg_iter {w:World} {k:Nat} (s:ByteArray) (pos:Nat):Chg (·=k) w (w.iterAt k s pos) :=
 ⟨rfl,rfl,rfl,by rw [Lib.iterAt_size];exact Nat.le_refl _,fun i _ hi=>Lib.iterAt_other w k i s pos hi⟩

theorem IndexFunc_ct {s:ByteArray} (hs:s.size≤maxLen) (w:World):Ct Try.prog strings_IndexFunc.id #[.string s,.func (.func gram_isTerm_1.id) #[] #[]] w fun v w'=>(∃i,v = .int .i64 i∧(0≤i↔¬∀j,j<s.size→plainN (bt s j)=true))∧Chg (fun _=>False) w w':=by
 refine strings_IndexFunc.ct fun R hR=>?_
 unfold strings_IndexFunc.run strings_IndexFunc.b1
 refine CALL_of (S:=fun v w'=>(∃i,v = .int .i64 i∧(0≤i↔¬∀j,j<s.size→plainN (bt s j)=true))∧Chg (fun _=>False) w w') (strings_indexFunc.ct fun R hR=>?_) (fun v w' h=>hR v w' h)
 unfold strings_indexFunc.run strings_indexFunc.b1 strings_indexFunc.b4
 simp [go_sem]
 have hc0:Chg (fun _=>False) w (w.iter s 0):=(Chg.refl _ _).alloc _
 have hk0:(w.iter s 0).heap[w.heap.size]?=some (.stringIter s 0):=World.iter_heap w s 0
 refine strings_indexFunc.l6_intro _ _ _ _ _ (fun W=>∃j,j≤s.size∧W.heap[w.heap.size]?=some (.stringIter s j)∧(∀i,i<j→plainN (bt s i)=true)∧Chg (fun _=>False) w W) (fun W=>s.size-W.iterPos w.heap.size) ⟨0,Nat.zero_le _,hk0,fun i h=>by omega,hc0⟩ ?_
 rintro W ⟨j,hj,hk,hall,hc⟩ C hC
 unfold strings_indexFunc.b7
 by_cases hlt:j<s.size
 ·have hb:(s[j]'hlt).toNat=bt s j:=by unfold bt;rw [dif_pos hlt]
  rw [RUN_eq,Lib.run_next_any_at W w.heap.size s j 0 hk hlt,RES_ok]
  simp [go_sem]
  refine CALLY_of (isTerm1_ct _ _) ?_
  rintro _ _ ⟨rfl,rfl⟩
  simp [go_sem]
  have hci:Chg (fun _=>False) w (W.iterAt w.heap.size s (j+(Utf8.decode s j).2)):=hc.trans' (chg_iter s _) (fun i hi h=>by omega)
  refine SPL_intro (fun h=>?_) (fun h=>?_)
  ·refine hR _ _ ⟨⟨j,rfl,?_⟩,hci⟩
   refine ⟨fun _ hp=>?_,fun _=>by omega⟩
   have h1:=hp j hlt
   have h2:bt s j<128:=by simp [plainN] at h1;omega
   rw [decode_ascii s j hlt (by rw [hb];exact h2),hb] at h
   simp [plainN] at h1 h
   omega
  ·have hlow:bt s j<128:=by
    rcases Nat.lt_or_ge (bt s j) 128 with h2 | h2
    ·exact h2
    ·have:=(decode_high s j hlt (by rw [hb];exact h2)).1
     simp at h
     omega
   have hd:=decode_ascii s j hlt (by rw [hb];exact hlow)
   rw [hd] at h hci ⊢
   rw [hb] at h
   simp at h
   refine hC _ ⟨j+1,hlt,Lib.iterAt_heap _ _ _ _ _ hk,fun i hi=>?_,hci⟩ ?_
   ·by_cases he:i=j
    ·rw [he];simp [plainN];omega
    ·exact hall i (by omega)
   ·unfold World.iterPos
    rw [Lib.iterAt_heap _ _ _ _ _ hk,hk]
    simp;omega
 ·rw [RUN_eq,Lib.run_next_end_at W w.heap.size s j 0 hk hlt,RES_ok]
  simp [go_sem]
  unfold strings_indexFunc.b3
  refine hR _ _ ⟨⟨-1,rfl,?_⟩,hc⟩
  refine ⟨fun h=>by omega,fun h=>absurd (fun i hi=>hall i (by omega)) h⟩

theorem str_empty {s:ByteArray}:(s.toList == [])=decide (s.size=0):=by
 rw [ByteArray.toList_eq]
 by_cases h:s.size=0
 ·have:s.data.toList=[]:=List.eq_nil_of_length_eq_zero (by simpa using h)
  simp [this,h]
 ·have:s.data.toList≠[]:=fun e=>h (by have:=congrArg List.length e;simpa using this)
  rw [beq_eq_false_iff_ne.2 this];simp [h]

theorem size_of_nil {s:ByteArray} (h:s.toList=[]):s.size=0:=by
 rw [ByteArray.toList_eq] at h
 have h2:s.data.toList.length=s.size:=by simp
 rw [h] at h2
 exact h2.symm

theorem isTerm_ct {s:ByteArray} (hs:s.size≤maxLen) (w:World):Ct Try.prog gram_isTerm.id #[.string s] w fun v w'=>v = .bool (tmB s)∧Chg (fun _=>False) w w':=by
 refine gram_isTerm.ct fun R hR=>?_
 have no:¬TermP s→R (.returned (.bool false)) w:=fun h=>hR _ _ ⟨by rw [tmB_no h],Chg.refl _ _⟩
 unfold gram_isTerm.run gram_isTerm.b1
 simp [go_sem]
 refine SPL_intro (fun h=>?_) (fun h=>?_)
 ·have hpos:0<s.size:=by
   rcases Nat.eq_zero_or_pos s.size with h0 | h0
   ·have:=str_empty (s:=s)
    rw [h0] at this
    simp at this h
    exact absurd this h
   ·exact h0
  simp [go_sem]
  refine SPL_intro (fun h2=>?_) (fun h2=>?_) <;> simp at h2
  ·refine CALL_of (IndexFunc_ct hs w) ?_
   rintro _ w1 ⟨⟨i,rfl,hi⟩,hc⟩
   simp [go_sem]
   refine hR _ _ ⟨?_,hc⟩
   congr 1
   rw [Bool.eq_iff_iff,tmB_iff,decide_eq_true_iff]
   constructor
   ·intro h3
    refine ⟨hpos,by omega,?_⟩
    exact Classical.byContradiction fun h4=>by have:=hi.2 h4;omega
   ·intro h3
    rcases Int.lt_or_le i 0 with h4 | h4
    ·exact h4
    ·exact absurd h3.2.2 (hi.1 h4)
  ·exact no fun h3=>by have:=h3.2.1;omega
 ·refine no fun h3=>?_
  have h4:=h3.1
  have h5:s.toList=[]:=by simpa using h
  have h6:=size_of_nil h5
  omega

theorem isName_ct {s:ByteArray} (hs:s.size≤maxLen) (w:World):Ct Try.prog gram_isName.id #[.string s] w fun v w'=>v = .bool (nmB s)∧Chg (fun _=>False) w w':=by
 refine gram_isName.ct fun R hR=>?_
 have no:¬NameP s→R (.returned (.bool false)) w:=fun h=>hR _ _ ⟨by rw [nmB_no h],Chg.refl _ _⟩
 unfold gram_isName.run gram_isName.b1 gram_isName.b4
 simp [go_sem]
 refine gram_isName.l6_intro _ _ _ _ _ (fun x w1=>∃k:Nat,x = .int .i64 k∧k≤s.size∧(∀i,i<k→innerN (bt s i)=true)∧(0<k→(letterN (bt s 0) || decide (bt s 0=95))=true)∧w=w1) (fun x _=>s.size-iv x) ⟨0,rfl,by omega,fun i h=>by omega,fun h=>by omega,rfl⟩ ?_
 rintro _ _ ⟨k,rfl,hk,hall,hfst,rfl⟩ C hC
 unfold gram_isName.b7
 simp [go_sem]
 refine SPL_intro (fun h=>?_) (fun h=>?_) <;> simp at h
 ·have step:∀b,(b=false→innerN (bt s k)=true∧(k=0→(letterN (bt s 0) || decide (bt s 0=95))=true))→(b=true→¬NameP s)→gram_isName.b12 R C (.int .i64 k) (.bool b) w:=by
   intro b h1 h2
   unfold gram_isName.b12
   cases b with
   | true=>simp [go_sem];exact no (h2 rfl)
   | false =>
    simp [go_sem]
    unfold gram_isName.b9
    simp [go_sem,wrap_succ h hs]
    refine hC _ _ ⟨k+1,by simp,by omega,fun i hi=>?_,fun _=>?_,rfl⟩ (by simp [iv];omega)
    ·by_cases he:i=k
     ·rw [he];exact (h1 rfl).1
     ·exact hall i (by omega)
    ·by_cases he:k=0
     ·exact (h1 rfl).2 he
     ·exact hfst (by omega)
  have hb:=bt_lt s k
  have hor:=or32 (bt s k) hb
  have noK:innerN (bt s k)=false→¬NameP s:=fun h1 h2=>by rw [h2.2.2.2 k h] at h1;cases h1
  have no0:k=0→letterN (bt s k)=false→bt s k≠95→¬NameP s:=fun h1 h2 h3 h4=>by
   have:=h4.2.2.1
   rw [←h1,h2] at this
   simp at this
   exact h3 this
  have h95:bt s k=95→∀b,b=false→gram_isName.b12 R C (.int .i64 k) (.bool b) w:=fun h1 b hb=>step b (fun _=>⟨by rw [h1];rfl,fun h0=>by rw [h0] at h1;rw [h1];rfl⟩) (fun e=>by rw [hb] at e;cases e)
  have hlet:letterN (bt s k)=true→gram_isName.b12 R C (.int .i64 k) (.bool false) w:=fun h1=>step false (fun _=>⟨by simp [innerN,h1],fun h0=>by rw [h0] at h1;rw [h1];rfl⟩) (fun e=>by cases e)
  unfold gram_isName.b11
  simp [go_sem,index_bt,h]
  refine SPL_intro (fun h1=>?_) (fun h1=>?_)
  ·have h95':bt s k≠95:=by simp at h1;omega
   simp [go_sem]
      -- no letter
   have nolet:letterN (bt s k)=false→(k=0→gram_isName.b12 R C (.int .i64 k) (.bool true) w)∧(¬k=0→bt s k<48→gram_isName.b12 R C (.int .i64 k) (.bool true) w)∧(¬k=0→48≤bt s k→gram_isName.b12 R C (.int .i64 k) (.bool (decide ((57:Int)<bt s k))) w):=fun hl=>by
    refine ⟨fun h0=>step _ (fun e=>by cases e) (fun _=>no0 h0 hl h95'),fun h0 h48=>step _ (fun e=>by cases e) (fun _=>noK ?_),fun h0 h48=>step _ (fun e=>⟨?_,fun e0=>absurd e0 h0⟩) (fun e=>noK ?_)⟩
    ·simp [innerN,hl];omega
    ·simp at e;simp [innerN];omega
    ·simp at e;simp [innerN,hl];omega
   refine SPL_intro (fun h2=>?_) (fun h2=>?_)
   ·have hl:letterN (bt s k)=false:=by rw [←hor];simp at h2 ⊢;omega
    obtain ⟨n1,n2,n3⟩:=nolet hl
    simp [go_sem]
    refine SPL_intro (fun h3=>?_) (fun h3=>?_)
    ·exact n1 (by simpa using h3)
    ·have hk0:¬k=0:=by simpa using h3
     simp [go_sem]
     refine SPL_intro (fun h4=>?_) (fun h4=>?_)
     ·exact n2 hk0 (by simp at h4;omega)
     ·simp [go_sem]
      exact n3 hk0 (by simp at h4;omega)
   ·simp [go_sem]
    refine SPL_intro (fun h3=>?_) (fun h3=>?_)
    ·have hl:letterN (bt s k)=false:=by rw [←hor];simp at h2 h3 ⊢;omega
     obtain ⟨n1,n2,n3⟩:=nolet hl
     simp [go_sem]
     refine SPL_intro (fun h5=>?_) (fun h5=>?_)
     ·exact n1 (by simpa using h5)
     ·have hk0:¬k=0:=by simpa using h5
      simp [go_sem]
      refine SPL_intro (fun h4=>?_) (fun h4=>?_)
      ·exact n2 hk0 (by simp at h4;omega)
      ·simp [go_sem]
       exact n3 hk0 (by simp at h4;omega)
    ·exact hlet (by rw [←hor];simp at h2 h3 ⊢;omega)
  ·exact h95 (by simp at h1;omega) false rfl
 ·unfold gram_isName.b3
  have fin:∀b,b=nmB s→R (.returned (.bool b)) w:=fun b hb=>hR _ _ ⟨by rw [hb],Chg.refl _ _⟩
  simp [go_sem]
  refine SPL_intro (fun h1=>?_) (fun h1=>?_)
  ·have hpos:0<s.size:=by
    rcases Nat.eq_zero_or_pos s.size with h0 | h0
    ·have:=str_empty (s:=s)
     rw [h0] at this
     simp at this h1
     exact absurd this h1
    ·exact h0
   simp [go_sem]
   refine fin _ ?_
   rw [Bool.eq_iff_iff,nmB_iff]
   simp
   constructor
   ·intro h2
    exact ⟨hpos,by omega,hfst (by omega),fun i hi=>hall i (by omega)⟩
   ·intro h2;have:=h2.2.1;omega
  ·refine no fun h3=>?_
   have h4:=h3.1
   have h5:s.toList=[]:=by simpa using h1
   have h6:=size_of_nil h5
   omega

theorem ref02_IsTerm_ct {s:ByteArray} (hs:s.size≤maxLen) (w:World):Ct Try.prog ref02_IsTerm.id #[.string s] w fun v w'=>v = .bool (tmB s)∧w=w':=by
 refine ref02_IsTerm.ct fun R hR=>?_
 have no:¬TermP s→∀v,v=Value.bool false→R (.returned v) w:=fun h v hv=>hR _ _ ⟨by rw [hv,tmB_no h],rfl⟩
 unfold ref02_IsTerm.run ref02_IsTerm.b1 ref02_IsTerm.b4
 refine ref02_IsTerm.l6_intro _ _ _ _ (fun x w1=>∃k:Nat,x = .int .i64 k∧k≤s.size∧(∀i,i<k→plainN (bt s i)=true)∧w=w1) (fun x _=>s.size-iv x) ⟨0,rfl,by omega,fun i h=>by omega,rfl⟩ ?_
 rintro _ _ ⟨k,rfl,hk,hall,rfl⟩ C hC
 unfold ref02_IsTerm.b7
 simp [go_sem]
 refine SPL_intro (fun h=>?_) (fun h=>?_) <;> simp at h
 ·have step:∀b,b = !(plainN (bt s k))→ref02_IsTerm.b12 R C (.int .i64 k) (.bool b) w:=by
   intro b hb
   unfold ref02_IsTerm.b12
   cases b with
   | true =>
    simp [go_sem]
    exact no (fun hn=>by have:=hn.2.2 k h;rw [this] at hb;cases hb) _ rfl
   | false =>
    simp [go_sem]
    unfold ref02_IsTerm.b9
    simp [go_sem,wrap_succ h hs]
    refine hC _ _ ⟨k+1,by simp,by omega,fun i hik=>?_,rfl⟩ (by simp [iv];omega)
    by_cases he:i=k
    ·rw [he];simpa using hb
    ·exact hall i (by omega)
  unfold ref02_IsTerm.b11
  simp [go_sem,index_bt,h]
  refine SPL_intro (fun h1=>?_) (fun h1=>?_) <;> simp at h1
  ·exact step _ (by simp [plainN];omega)
  simp [go_sem,index_bt,h]
  refine SPL_intro (fun h2=>?_) (fun h2=>?_) <;> simp at h2
  ·exact step _ (by simp [plainN];omega)
  simp [go_sem,index_bt,h]
  exact step _ (by rw [Bool.eq_iff_iff];simp [plainN];omega)
 ·unfold ref02_IsTerm.b3
  have fin:∀b,b=tmB s→R (.returned (.bool b)) w:=fun b hb=>hR _ _ ⟨by rw [hb],rfl⟩
  simp [go_sem]
  refine SPL_intro (fun h1=>?_) (fun h1=>?_) <;> simp at h1
  ·simp [go_sem]
   refine fin _ ?_
   rw [Bool.eq_iff_iff,tmB_iff]
   simp
   constructor
   ·intro h2;exact ⟨by omega,by omega,fun i hi=>hall i (by omega)⟩
   ·intro h2;have:=h2.2.1;omega
  ·exact no (fun hn=>by have:=hn.1;omega) _ rfl

theorem ref02_IsName_ct {s:ByteArray} (hs:s.size≤maxLen) (w:World):Ct Try.prog ref02_IsName.id #[.string s] w fun v w'=>v = .bool (nmB s)∧w=w':=by
 refine ref02_IsName.ct fun R hR=>?_
 have no:¬NameP s→R (.returned (.bool false)) w:=fun h=>hR _ _ ⟨by rw [nmB_no h],rfl⟩
 unfold ref02_IsName.run ref02_IsName.b1 ref02_IsName.b4
 refine ref02_IsName.l6_intro _ _ _ _ (fun x w1=>∃k:Nat,x = .int .i64 k∧k≤s.size∧(∀i,i<k→innerN (bt s i)=true)∧(0<k→(letterN (bt s 0) || decide (bt s 0=95))=true)∧w=w1) (fun x _=>s.size-iv x) ⟨0,rfl,by omega,fun i h=>by omega,fun h=>by omega,rfl⟩ ?_
 rintro _ _ ⟨k,rfl,hk,hall,hfst,rfl⟩ C hC
 unfold ref02_IsName.b7
 simp [go_sem]
 refine SPL_intro (fun h=>?_) (fun h=>?_) <;> simp at h
 ·have h12:∀b,b=(letterN (bt s k) || decide (bt s k=95))→ref02_IsName.b12 R C (.string s) (.int .i64 k) (.bool b) w:=by
   intro b hb
   have h13:∀d,d=(decide (48≤bt s k∧bt s k≤57) && decide (0<k))→ref02_IsName.b13 R C (.int .i64 k) (.bool b) (.bool d) w:=by
    intro d hd
    have bad:(b || d)=false→ref02_IsName.b14 R C (.int .i64 k) (.bool true) w:=by
     intro hbd
     unfold ref02_IsName.b14
     simp [go_sem]
     refine no fun hn=>?_
     have h1:=hn.2.2.2 k h
     have h2:=hn.2.2.1
     rw [hb,hd] at hbd
     by_cases h0:k=0
     ·rw [h0,h2] at hbd
      cases hbd
     ·simp [innerN] at h1 hbd
      rcases h1 with h1 | h1 | h1
      ·rw [h1] at hbd;simp at hbd
      ·exact hbd.1.2 h1
      ·have:=hbd.2 h1.1 h1.2;omega
    have good:(b || d)=true→ref02_IsName.b14 R C (.int .i64 k) (.bool false) w:=by
     intro hbd
     unfold ref02_IsName.b14
     simp [go_sem]
     unfold ref02_IsName.b9
     simp [go_sem,wrap_succ h hs]
     rw [hb,hd] at hbd
     refine hC _ _ ⟨k+1,by simp,by omega,fun i hi=>?_,fun _=>?_,rfl⟩ (by simp [iv];omega)
     ·by_cases he:i=k
      ·rw [he]
       simp [innerN] at hbd ⊢
       rcases hbd with hbd | hbd
       ·rcases hbd with hbd | hbd
        ·exact Or.inl hbd
        ·exact Or.inr (Or.inl hbd)
       ·exact Or.inr (Or.inr hbd.1)
      ·exact hall i (by omega)
     ·by_cases he:k=0
      ·rw [he] at hbd
       simp at hbd ⊢
       exact hbd
      ·exact hfst (by omega)
    unfold ref02_IsName.b13
    cases b with
    | true=>simp [go_sem];exact good rfl
    | false =>
     simp [go_sem]
     cases d with
     | true=>exact good rfl
     | false=>exact bad rfl
   unfold ref02_IsName.b12
   simp [go_sem,index_bt,h]
   refine SPL_intro (fun h1=>?_) (fun h1=>?_)
   ·simp [go_sem,index_bt,h]
    refine SPL_intro (fun h2=>?_) (fun h2=>?_)
    ·simp [go_sem]
     refine h13 _ ?_
     rw [Bool.eq_iff_iff]
     simp at h1 h2 ⊢
     omega
    ·refine h13 false ?_
     simp at h1 h2 ⊢
     omega
   ·refine h13 false ?_
    simp at h1 ⊢
    omega
  unfold ref02_IsName.b11
  simp [go_sem,index_bt,h]
  have e1:∀c:Nat,letterN c=decide (65≤c∧c≤90∨97≤c∧c≤122):=fun c=>rfl
  refine SPL_intro (fun h1=>?_) (fun h1=>?_)
  all_goals simp [go_sem,index_bt,h]
  ·refine SPL_intro (fun h2=>?_) (fun h2=>?_)
   ·exact h12 true (by simp at h1 h2;simp [e1];omega)
   ·simp [go_sem,index_bt,h]
    refine SPL_intro (fun h3=>?_) (fun h3=>?_)
    all_goals simp [go_sem,index_bt,h]
    ·refine SPL_intro (fun h4=>?_) (fun h4=>?_)
     ·exact h12 true (by simp at h3 h4;simp [e1];omega)
     ·simp [go_sem,index_bt,h]
      exact h12 _ (by rw [Bool.eq_iff_iff];simp at h1 h2 h3 h4;simp [e1];omega)
    ·exact h12 _ (by rw [Bool.eq_iff_iff];simp at h1 h2 h3;simp [e1];omega)
  ·refine SPL_intro (fun h3=>?_) (fun h3=>?_)
   all_goals simp [go_sem,index_bt,h]
   ·refine SPL_intro (fun h4=>?_) (fun h4=>?_)
    ·exact h12 true (by simp at h3 h4;simp [e1];omega)
    ·simp [go_sem,index_bt,h]
     exact h12 _ (by rw [Bool.eq_iff_iff];simp at h1 h3 h4;simp [e1];omega)
   ·exact h12 _ (by rw [Bool.eq_iff_iff];simp at h1 h3;simp [e1];omega)
 ·unfold ref02_IsName.b3
  have fin:∀b,b=nmB s→R (.returned (.bool b)) w:=fun b hb=>hR _ _ ⟨by rw [hb],rfl⟩
  simp [go_sem]
  refine SPL_intro (fun h1=>?_) (fun h1=>?_) <;> simp at h1
  ·simp [go_sem]
   refine fin _ ?_
   rw [Bool.eq_iff_iff,nmB_iff]
   simp
   constructor
   ·intro h2;exact ⟨by omega,by omega,hfst (by omega),fun i hi=>hall i (by omega)⟩
   ·intro h2;have:=h2.2.1;omega
  ·exact no fun hn=>by have:=hn.1;omega
end Go.Proofs.Ytmoepnfobnpdiaa

/-
  The rows of this seat in general.
-/
namespace Go.Proofs.Ytmoepnfobnpdiaa
open Go.Px Go.Px.Scan Go.ChangeShapes Go.WideShapes Go.ChangeAt Go.RowKit

theorem own:ownKnob Try.prog.godebug=none:=by kernel_rfl
theorem cells9:Try.prog.cellsOf 9=1:=by kernel_rfl
theorem opens9:Opens Try.prog 9 rStr:=opens_str Try.underlying9 cells9 (by kernel_rfl)
theorem opens3:Opens Try.prog 3 rInt:=opens_int Try.underlying3 (by kernel_rfl) (by kernel_rfl)
theorem opens24:Opens Try.prog 24 (rSlice rInt):=opens_slice Try.underlying24 (by kernel_rfl) (by kernel_rfl) (by decide) opens3
theorem laid_none (P:Program) (w:World):laidMetH P [] w:=⟨[],rfl,List.nodup_nil,fun _ _ h=>by cases h⟩
end Go.Proofs.Ytmoepnfobnpdiaa

/-
  Grammars, plainly: which of them may be.
-/
namespace Go.Px.Scan
open Go.Px

/-- A grammar. -/
structure Gr where
 terms:List (ByteArray×Int)
 nons:List ByteArray
 levels:List Int
 start:Int
 prods:List (Int×List Int×Int)

def addL (acc:List Int) (x:Int):List Int:=if x∈acc then acc else acc++[x]
/-- The Lefts, in the order in which they first come. -/
def leftsOf (l:List (Int×List Int×Int)):List Int:=l.foldl (fun a p=>addL a p.1) []

structure TermOk (g:Gr) (t:ByteArray×Int):Prop where
 name:TermP t.1
 lo:0≤t.2
 hi:t.2≤g.levels.length

structure SymsP (g:Gr) (a:Nat):Prop where
 t0:g.terms.head?=some (⟨#[]⟩,0)
 n0:a<g.nons.length
 t1:g.terms.length≤65
 n1:g.nons.length≤64+a
 sum:g.terms.length-1+(g.nons.length-a)≤64
 terms:∀t∈g.terms.tail,TermOk g t
 levels:∀i (h:i<g.levels.length),1≤g.levels[i]∧g.levels[i]≤3∧∃t∈g.terms.tail,t.2=(i:Int)+1
 tnd:(g.terms.tail.map (·.1)).Nodup
 nnd:(g.nons.drop a).Nodup
 nnam:∀s∈g.nons.drop a,NameP s

structure ProdOk (g:Gr) (a:Nat) (p:Int×List Int×Int):Prop where
 l0:(g.terms.length+a:Int)≤p.1
 l1:p.1<(g.terms.length+g.nons.length:Int)
 v0:0≤p.2.2
 v1:p.2.2≤g.levels.length
 right:∀s∈p.2.1,1≤s∧s<(g.terms.length+g.nons.length:Int)∧((g.terms.length:Int)≤s→(g.terms.length+a:Int)≤s)

structure ProdsP (g:Gr) (a:Nat):Prop where
 c0:a<g.prods.length
 c1:g.prods.length≤96+a
 each:∀p∈g.prods.drop a,ProdOk g a p
 lefts:(leftsOf (g.prods.drop a)).length+a=g.nons.length
 s0:(g.terms.length+a:Int)≤g.start
 s1:g.start<(g.terms.length+g.nons.length:Int)

/-- May a grammar be? -/
structure ValidP (g:Gr):Prop where
 syms:SymsP g 0
 prods:ProdsP g 0
 sorted:(leftsOf g.prods).Pairwise (·≤·)

/-- Is it one with the added production? -/
structure ClosedP (g:Gr):Prop where
 first:g.nons.head?=some ⟨#[]⟩
 syms:SymsP g 1
 prods:ProdsP g 1
 added:g.prods.head?=some ((g.terms.length:Int),[g.start],0)

open Classical in
noncomputable def symB (g:Gr) (a:Nat):Bool:=decide (SymsP g a)
open Classical in
noncomputable def prodB (g:Gr) (a:Nat):Bool:=decide (ProdsP g a)
open Classical in
noncomputable def validB (g:Gr):Bool:=decide (ValidP g)
open Classical in
noncomputable def closedB (g:Gr):Bool:=decide (ClosedP g)
theorem symB_iff {g:Gr} {a:Nat}:symB g a=true↔SymsP g a:=@decide_eq_true_iff _ (_)
theorem prodB_iff {g:Gr} {a:Nat}:prodB g a=true↔ProdsP g a:=@decide_eq_true_iff _ (_)
theorem validB_iff {g:Gr}:validB g=true↔ValidP g:=@decide_eq_true_iff _ (_)
theorem closedB_iff {g:Gr}:closedB g=true↔ClosedP g:=@decide_eq_true_iff _ (_)
theorem bool_no {b:Bool} {p:Prop} (i:b=true↔p) (h:¬p):b=false:=by
 cases b
 ·rfl
 ·exact absurd (i.1 rfl) h
theorem bool_eq {a b:Bool} (h:a=true↔b=true):a=b:=Bool.eq_iff_iff.2 h

/-! ### Lefts -/
theorem addL_nodup {acc:List Int} (h:acc.Nodup) (x:Int):(addL acc x).Nodup:=by
 unfold addL
 split
 ·exact h
 ·rename_i hx
  refine List.nodup_append.2 ⟨h,by simp,fun a ha b hb=>?_⟩
  simp at hb
  subst hb
  intro e;subst e;exact hx ha
theorem addL_mem {acc:List Int} {x y:Int}:y∈addL acc x↔y∈acc∨y=x:=by
 unfold addL
 split
 ·rename_i hx
  exact ⟨Or.inl,fun h=>h.elim id fun e=>e ▸ hx⟩
 ·simp
theorem leftsOf_snoc (l:List (Int×List Int×Int)) (p:Int×List Int×Int):leftsOf (l++[p])=addL (leftsOf l) p.1:=by simp [leftsOf]
theorem foldl_lefts (l:List (Int×List Int×Int)):∀acc:List Int,acc.Nodup→(l.foldl (fun a p=>addL a p.1) acc).Nodup∧∀y,y∈l.foldl (fun a p=>addL a p.1) acc↔y∈acc∨∃p∈l,p.1=y:=by
 induction l with
 | nil=>intro acc h;exact ⟨h,fun y=>by simp⟩
 | cons p r ih =>
  intro acc h
  obtain ⟨h1,h2⟩:=ih (addL acc p.1) (addL_nodup h _)
  refine ⟨h1,fun y=>?_⟩
  rw [List.foldl_cons,h2,addL_mem]
  simp [or_assoc,eq_comm]
theorem leftsOf_nodup (l:List (Int×List Int×Int)):(leftsOf l).Nodup:=(foldl_lefts l [] (by simp)).1
theorem leftsOf_mem {l:List (Int×List Int×Int)} {y:Int}:y∈leftsOf l↔∃p∈l,p.1=y:=by
 have:=(foldl_lefts l [] (by simp)).2 y
 simpa [leftsOf] using this

/-! ### Counting -/
theorem nodup_le {α:Type} [DecidableEq α]:∀{l m:List α},l.Nodup→(∀x∈l,x∈m)→l.length≤m.length
 | [],_,_,_=>Nat.zero_le _
 | x::l,m,h,hs=>by
  rw [List.nodup_cons] at h
  have hx:=hs x (by simp)
  have:=nodup_le (l:=l) (m:=m.erase x) h.2 fun y hy=>(List.mem_erase_of_ne (fun e=>h.1 (by rw [←e];exact hy))).2 (hs y (by simp [hy]))
  rw [List.length_erase_of_mem hx] at this
  have hpos:0<m.length:=List.length_pos_of_mem hx
  simp
  omega

/-- A row of numbers, each one more. -/
theorem sorted_iff {l:List Int} (hnd:l.Nodup) {t:Int} (hb:∀x∈l,t≤x∧x<t+l.length):l.Pairwise (·≤·)↔∀i (h:i<l.length),l[i]=t+i:=by
 constructor
 ·intro hp
  have hlt:∀i j (hi:i<j) (hj:j<l.length),l[i]<l[j]:=by
   intro i j hi hj
   have h1:=List.pairwise_iff_getElem.1 hp i j (by omega) hj hi
   have h2:=List.pairwise_iff_getElem.1 hnd i j (by omega) hj hi
   have h3:l[i]≠l[j]:=h2
   omega
  have lo:∀i (h:i<l.length),t+i≤l[i]:=by
   intro i
   induction i with
   | zero=>intro h;have:=(hb l[0] (List.getElem_mem h)).1;simpa using this
   | succ i ih =>
    intro h
    have h1:=ih (by omega)
    have h2:=hlt i (i+1) (by omega) h
    omega
  have hi':∀d i (h:i<l.length),i+d+1=l.length→l[i]≤t+i:=by
   intro d
   induction d with
   | zero=>intro i h e;have:=(hb l[i] (List.getElem_mem h)).2;omega
   | succ d ih =>
    intro i h e
    have h1:=ih (i+1) (by omega) (by omega)
    have h2:=hlt i (i+1) (by omega) (by omega)
    omega
  intro i h
  have:=lo i h
  have:=hi' (l.length-i-1) i h (by omega)
  omega
 ·intro h
  refine List.pairwise_iff_getElem.2 fun i j hi hj hij=>?_
  rw [h i hi,h j hj];omega

theorem ProdsP.row {g:Gr} (h:ProdsP g 0):(leftsOf g.prods).Pairwise (·≤·)↔∀i (hi:i<(leftsOf g.prods).length),(leftsOf g.prods)[i]=(g.terms.length:Int)+i:=by
 have hl:=h.lefts
 rw [List.drop_zero] at hl
 refine sorted_iff (leftsOf_nodup _) fun x hx=>?_
 obtain ⟨p,hp,rfl⟩:=leftsOf_mem.1 hx
 have:=h.each p (by simpa using hp)
 have h1:=this.l0
 have h2:=this.l1
 omega

/-- No more levels than terminals. -/
theorem SymsP.lev {g:Gr} {a:Nat} (h:SymsP g a):g.levels.length≤64:=by
 have h1:((List.range g.levels.length).map fun i:Nat=>(i:Int)+1).length≤(g.terms.tail.map (·.2)).length:=by
  refine nodup_le ?_ fun x hx=>?_
  ·refine List.pairwise_map.2 ?_
   refine List.Pairwise.imp ?_ (List.nodup_range (n:=g.levels.length))
   intro a b hab e
   exact hab (by omega)
  ·obtain ⟨i,hi,rfl⟩:=List.mem_map.1 hx
   obtain ⟨_,_,t,ht,e⟩:=h.levels i (by simpa using hi)
   exact List.mem_map.2 ⟨t,ht,e⟩
 have:=h.t1
 simp at h1
 omega
end Go.Px.Scan

/-
  Grammars in memory.
-/
namespace Go.Px.Scan
open Go.Px Go.RowKit

def rTerm:Rep (ByteArray×Int):=rStr.prod rInt
def rPr:Rep (Int×List Int×Int):=rInt.prod ((rSlice rInt).prod rInt)
def rGram:Rep Gr:=Rep.map ((rSlice rTerm).prod ((rSlice rStr).prod ((rSlice rInt).prod (rInt.prod (rSlice rPr))))) fun g=>(g.terms,g.nons,g.levels,g.start,g.prods)

section
variable {w:World} {B:Nat} {A:Option Addr} {n c:Nat}

theorem terms_at {l:List (ByteArray×Int)} (h:(rSlice rTerm).at1 w B (.slice A n c) l) {i:Nat} (hi:i<l.length) :
  ∃b o,A=some ⟨b,o,none⟩∧b<B∧w.cell? ⟨b,o+i*2,none⟩=some (.string l[i].1)∧w.cell? ⟨b,o+i*2+1,none⟩=some (.int .i64 l[i].2)∧l[i].1.size≤maxLen∧inI64 l[i].2:=by
 obtain ⟨b,o,ys,hA,hb,⟨c1,c2,rfl,⟨rfl,h1⟩,rfl,h2⟩,hc⟩:=slice_at h hi
 exact ⟨b,o,hA,hb,hc 0 _ rfl,hc 1 _ rfl,h1,h2⟩

theorem prods_at {l:List (Int×List Int×Int)} (h:(rSlice rPr).at1 w B (.slice A n c) l) {i:Nat} (hi:i<l.length) :
  ∃b o v,A=some ⟨b,o,none⟩∧b<B∧w.cell? ⟨b,o+i*3,none⟩=some (.int .i64 l[i].1)∧w.cell? ⟨b,o+i*3+1,none⟩=some v∧w.cell? ⟨b,o+i*3+2,none⟩=some (.int .i64 l[i].2.2) ∧
   (rSlice rInt).at1 w B v l[i].2.1∧inI64 l[i].1∧inI64 l[i].2.2:=by
 obtain ⟨b,o,ys,hA,hb,⟨c1,c2,rfl,⟨rfl,h1⟩,c3,c4,rfl,h2,rfl,h3⟩,hc⟩:=slice_at h hi
 obtain ⟨A',k,rfl,h4⟩:=h2
 exact ⟨b,o,_,hA,hb,hc 0 _ rfl,hc 1 _ rfl,hc 2 _ rfl,⟨A',k,rfl,h4⟩,h1,h3⟩

/-- A grammar's value. -/
structure GrV (w:World) (B:Nat) (v:Value) (g:Gr):Prop where
 ex:∃A1 c1 A2 c2 A3 c3 A4 c4,v = .agg #[.slice A1 g.terms.length c1,.slice A2 g.nons.length c2,.slice A3 g.levels.length c3,.int .i64 g.start,.slice A4 g.prods.length c4] ∧
  (rSlice rTerm).at1 w B (.slice A1 g.terms.length c1) g.terms∧(rSlice rStr).at1 w B (.slice A2 g.nons.length c2) g.nons∧(rSlice rInt).at1 w B (.slice A3 g.levels.length c3) g.levels∧inI64 g.start∧(rSlice rPr).at1 w B (.slice A4 g.prods.length c4) g.prods ∧
  (g.terms.length≤c1∧c1≤maxLen)∧(g.nons.length≤c2∧c2≤maxLen)∧(g.levels.length≤c3∧c3≤maxLen)∧(g.prods.length≤c4∧c4≤maxLen)

theorem rGram_open {v:Value} {g:Gr} (h:rGram.atN w B v g):GrV w B v g:=by
 obtain ⟨cs,rfl,x1,y1,e1,h1,x2,y2,e2,h2,x3,y3,e3,h3,x4,y4,e4,⟨h4,i4⟩,h5⟩:=h
 obtain ⟨A1,c1,f1,l1,m1,_⟩:=id h1
 obtain ⟨A2,c2,f2,l2,m2,_⟩:=id h2
 obtain ⟨A3,c3,f3,l3,m3,_⟩:=id h3
 obtain ⟨A4,c4,f4,l4,m4,_⟩:=id h5
 subst f1 f2 f3 h4 f4 e4 e3 e2 e1
 exact ⟨A1,c1,A2,c2,A3,c3,A4,c4,rfl,h1,h2,h3,i4,h5,⟨l1,m1⟩,⟨l2,m2⟩,⟨l3,m3⟩,⟨l4,m4⟩⟩

theorem rGram_below {w':World} {v:Value} {g:Gr} (h:rGram.atN w B v g) (hb:Below B w w'):rGram.atN w' B v g:=by
 obtain ⟨cs,rfl,hc⟩:=h
 exact ⟨cs,rfl,rGram.keep hc (Nat.le_refl _) hb.block⟩

theorem flat_one {α β:Type} (f:α→β) (l:List α):l.flatMap (fun x=>[f x])=l.map f:=by
 induction l with
 | nil=>rfl
 | cons x r ih=>simp [ih]
/-- A part of a slice. -/
theorem slice_drop {α:Type} {r:Rep α} {l:List α} {b o k:Nat} (h:(rSlice r).at1 w B (.slice (some ⟨b,o,none⟩) l.length c) l) (hk:k≤l.length):(rSlice r).at1 w B (.slice (some ⟨b,o+k*r.size,none⟩) (l.length-k) (c-k)) (l.drop k):=by
 obtain ⟨A',c',hv,h1,h2,h3,h4⟩:=h
 injection hv with hv _
 injection hv with hA _ hc
 subst hc
 refine ⟨_,c-k,by rw [List.length_drop],by rw [List.length_drop];omega,by omega,trivial,fun hpos=>?_⟩
 rw [List.length_drop] at hpos
 obtain ⟨b',o',e,hb,hcell⟩:=h4 (by omega)
 rw [←hA] at e
 injection e with e
 injection e with e1 e2
 subst e1 e2
 refine ⟨b,o+k*r.size,rfl,hb,fun i x hi=>?_⟩
 rw [List.getElem?_drop] at hi
 obtain ⟨ys,hy,hu⟩:=hcell (k+i) x hi
 refine ⟨ys,hy,fun j u hj=>?_⟩
 have:=hu j u hj
 rw [Nat.add_mul] at this
 rw [show o+k*r.size+(i*r.size+j)=o+(k*r.size+i*r.size+j) by omega]
 exact this
/-- .. as the model has it. -/
theorem slice_from {α:Type} {r:Rep α} {l:List α} {b o o' k:Nat} (h:(rSlice r).at1 w B (.slice (some ⟨b,o,none⟩) l.length c) l) (hk:k≤l.length) (ho:o'=o+k*r.size) :
  (rSlice r).at1 w B (.slice (if c=k then some ⟨b,o,none⟩ else some ⟨b,o',none⟩) (l.length-k) (c-k)) (l.drop k):=by
 subst ho
 by_cases e:c=k
 ·obtain ⟨A',c',hv,h1,h2,h3,h4⟩:=id h
  injection hv with hv _
  injection hv with hA _ hc
  have hl:l.length=k:=by omega
  rw [if_pos e]
  refine ⟨_,c-k,by rw [List.length_drop],by rw [List.length_drop];omega,by omega,trivial,fun hpos=>?_⟩
  rw [List.length_drop] at hpos
  omega
 ·rw [if_neg e]
  exact slice_drop h hk
/-- A nil slice's part. -/
theorem slice_nil {α:Type} {r:Rep α} {n c:Nat} {l:List α} (h:(rSlice r).at1 w B (.slice none n c) l):l=[]:=by
 obtain ⟨A',c',hv,h1,h2,h3,h4⟩:=h
 rcases Nat.eq_zero_or_pos l.length with h0 | h0
 ·exact List.eq_nil_of_length_eq_zero h0
 ·obtain ⟨b,o,e,_⟩:=h4 h0
  injection hv with hv;injection hv with hA;rw [e] at hA;cases hA
end
end Go.Px.Scan

/-
  Rows with grammars.
-/
namespace Go.Proofs.Ytmoepnfobnpdiaa
open Go.Px Go.Px.Scan Go.ChangeShapes Go.WideShapes Go.ChangeAt Go.RowKit
theorem opens112:Opens Try.prog 112 rTerm:=opens_struct Try.underlying112 (by kernel_rfl) (by kernel_rfl) (opensF_cons opens9 (opensF_one opens3))
theorem opens22:Opens Try.prog 22 (rSlice rTerm):=opens_slice Try.underlying22 (by kernel_rfl) (by kernel_rfl) (by decide) opens112
theorem opens23:Opens Try.prog 23 (rSlice rStr):=opens_slice Try.underlying23 (by kernel_rfl) (by kernel_rfl) (by decide) opens9
theorem opens67:Opens Try.prog 67 rPr:=opens_struct Try.underlying67 (by kernel_rfl) (by kernel_rfl) (opensF_cons opens3 (opensF_cons opens24 (opensF_one opens3)))
theorem opens25:Opens Try.prog 25 (rSlice rPr):=opens_slice Try.underlying25 (by kernel_rfl) (by kernel_rfl) (by decide) opens67
theorem opens27:Opens Try.prog 27 rGram:=opens_map (g:=fun a=>⟨a.1,a.2.1,a.2.2.1,a.2.2.2.1,a.2.2.2.2⟩) (fun _=>rfl)
 (opens_struct Try.underlying27 (by kernel_rfl) (by kernel_rfl) (opensF_cons opens22 (opensF_cons opens23 (opensF_cons opens24 (opensF_cons opens3 (opensF_one opens25))))))
end Go.Proofs.Ytmoepnfobnpdiaa
namespace Go.Px.Scan
open Go.Px
end Go.Px.Scan
namespace Go.Proofs.Ytmoepnfobnpdiaa
open Go.Px
end Go.Proofs.Ytmoepnfobnpdiaa

/-
  This seat's types.
-/
namespace Go.Proofs.Ytmoepnfobnpdiaa
open Go.Px Go.RowKit
theorem uStr:Try.prog.underlying 9=some .string:=Try.underlying9
theorem uInts:Try.prog.underlying 24=some (.slice 3):=Try.underlying24
theorem uStrs:Try.prog.underlying 23=some (.slice 9):=Try.underlying23
theorem iInt:(Try.prog.info? 3).map (fun i=>(i.zero,i.size,i.bytes))=some (some (.int .i64 0),1,8):=by kernel_rfl
theorem iStr:(Try.prog.info? 9).map (fun i=>(i.zero,i.size,i.bytes))=some (some (.string ⟨#[]⟩),1,16):=by kernel_rfl
theorem mStr:MapTy Try.prog kStr 52 9 3 where
 tm:=Try.underlying52
 te:=Try.underlying3
 keyed:=Maps.string_keyed Try.underlying9
 key a ha:=WideMaps.keyOf_string_mk Try.underlying9 ha
 zero w:=by simp [go_sem]
theorem mInt:MapTy Try.prog kInt 110 3 3 where
 tm:=Try.underlying110
 te:=Try.underlying3
 keyed:=Maps.int_keyed Try.underlying3
 key a ha:=Maps.keyOf_int_mk Try.underlying3 (by
  have hm:IntKind.i64.min = -9223372036854775808:=by decide
  obtain ⟨h1,h2⟩:=ha
  simp [Lit.wf,hm]
  omega)
 zero w:=by simp [go_sem]
theorem mkStr (w:World):(Instr.makeMap 52 none).run Try.prog w = .ok (.map (some w.heap.size)) (w.alloc (.map #[] 0)):=by
 simp [Instr.makeMap,run_underlying Try.underlying52,go_sem]
theorem mkInt (w:World):(Instr.makeMap 110 none).run Try.prog w = .ok (.map (some w.heap.size)) (w.alloc (.map #[] 0)):=by
 simp [Instr.makeMap,run_underlying Try.underlying110,go_sem]
theorem bTerm2 (s:ByteArray) (x:Int) (w:World):(Instr.build 112 #[(0,.string s),(1,.int .i64 x)]).run Try.prog w = .ok (.agg #[.string s,.int .i64 x]) w:=by simp [go_sem]
theorem bTerm1 (s:ByteArray) (w:World):(Instr.build 112 #[(0,.string s)]).run Try.prog w = .ok (.agg #[.string s,.int .i64 0]) w:=by simp [go_sem]
theorem bProd02 (x y:Int) (w:World):(Instr.build 67 #[(0,.int .i64 x),(2,.int .i64 y)]).run Try.prog w = .ok (.agg #[.int .i64 x,.slice none 0 0,.int .i64 y]) w:=by simp [go_sem]
theorem bGram02 (a b:Option Addr) (n c m d:Nat) (w:World):(Instr.build 27 #[(0,.slice a n c),(2,.slice b m d)]).run Try.prog w = .ok (.agg #[.slice a n c,.slice none 0 0,.slice b m d,.int .i64 0,.slice none 0 0]) w:=by simp [go_sem]
theorem bInts2 (x y:Int) (w:World):(Instr.buildSlice 24 2 #[(0,.int .i64 x),(1,.int .i64 y)]).run Try.prog w = .ok (.slice (some ⟨w.heap.size,0,none⟩) 2 2) (w.alloc (.cells #[.int .i64 x,.int .i64 y] 3)):=by simp [go_sem]
theorem bBytes2 (x y:Int) (w:World):(Instr.buildSlice 117 2 #[(0,.int .u8 x),(1,.int .u8 y)]).run Try.prog w = .ok (.slice (some ⟨w.heap.size,0,none⟩) 2 2) (w.alloc (.cells #[.int .u8 x,.int .u8 y] 5)):=by simp [go_sem]
attribute [go_sem ↓] bBytes2 bInts2 bTerm2 bTerm1 bProd02 bGram02
end Go.Proofs.Ytmoepnfobnpdiaa

/-
  LR(0) states and the cores of LR(1) states, plainly.
-/
namespace Go.Px.Cn
open Go.Px
abbrev Prs:=List (Int×List Int×Int)
abbrev It:=Nat×Nat
abbrev It1:=It×Nat
def rgt (P:Prs) (p:Nat):List Int:=(P.getD p (0,[],0)).2.1
def lft (P:Prs) (p:Nat):Int:=(P.getD p (0,[],0)).1
/-- The symbol behind the dot. -/
def aft (P:Prs) (x:It):Option Int:=(rgt P x.1)[x.2]?
/-- The closure of items. -/
inductive Cl0 (P:Prs) (K:It→Prop):It→Prop
 | base {x:It}:K x→Cl0 P K x
 | step {x:It} {s:Int} {q:Nat}:Cl0 P K x→aft P x=some s→q<P.length→lft P q=s→Cl0 P K (q,0)
/-- The kernel behind a symbol. -/
def Go0 (P:Prs) (K:It→Prop) (s:Int):It→Prop:=fun x=>∃y,Cl0 P K y∧aft P y=some s∧x=(y.1,y.2+1)
/-- The kernels that are come to. -/
inductive R0 (P:Prs):(It→Prop)→Prop
 | start:R0 P (fun x=>x=(0,0))
 | step {K:It→Prop} {s:Int}:R0 P K→(∃x,Go0 P K s x)→R0 P (Go0 P K s)
/-- The closure of items with lookaheads; FI rest t u: with u may begin what the rest and t derive. -/
inductive Cl1 (P:Prs) (FI:List Int→Nat→Nat→Prop) (K:It1→Prop):It1→Prop
 | base {z:It1}:K z→Cl1 P FI K z
 | step {x:It} {t:Nat} {s:Int} {q u:Nat}:Cl1 P FI K (x,t)→aft P x=some s→q<P.length→lft P q=s→FI ((rgt P x.1).drop (x.2+1)) t u→Cl1 P FI K ((q,0),u)
def Go1 (P:Prs) (S:It1→Prop) (s:Int):It1→Prop:=fun z=>∃y,S (y,z.2)∧aft P y=some s∧z.1=(y.1,y.2+1)
inductive R1 (P:Prs) (FI:List Int→Nat→Nat→Prop):(It1→Prop)→Prop
 | start:R1 P FI (Cl1 P FI (fun z=>z=((0,0),0)))
 | step {S:It1→Prop} {s:Int}:R1 P FI S→(∃z,Go1 P S s z)→R1 P FI (Cl1 P FI (Go1 P S s))
def Core (S:It1→Prop):It→Prop:=fun x=>∃t,S (x,t)
section
variable {P:Prs} {FI:List Int→Nat→Nat→Prop}
theorem Cl0.mono {K K':It→Prop} (h:∀x,K x→K' x) {x:It} (hx:Cl0 P K x):Cl0 P K' x:=by
 induction hx with
 | base h1=>exact .base (h _ h1)
 | step _ h2 h3 h4 ih=>exact .step ih h2 h3 h4
theorem Cl0.congr {K K':It→Prop} (h:∀x,K x↔K' x) (x:It):Cl0 P K x↔Cl0 P K' x:=⟨Cl0.mono fun x=>(h x).1,Cl0.mono fun x=>(h x).2⟩
/-- The cores of a closure are the closure of the cores, where there is always something to begin with. -/
theorem core_cl (hne:∀x s t,aft P x=some s→∃u,FI ((rgt P x.1).drop (x.2+1)) t u) {K:It1→Prop} (x:It):Core (Cl1 P FI K) x↔Cl0 P (Core K) x:=by
 constructor
 ·rintro ⟨t,h⟩
  generalize e:(x,t)=z at h
  induction h generalizing x t with
  | base h1=>subst e;exact .base ⟨t,h1⟩
  | step h1 h2 h3 h4 h5 ih =>
   injection e with e1 e2
   subst e1
   exact .step (ih _ _ rfl) h2 h3 h4
 ·intro h
  induction h with
  | base h1=>obtain ⟨t,h1⟩:=h1;exact ⟨t,.base h1⟩
  | step h1 h2 h3 h4 ih =>
   obtain ⟨t,ht⟩:=ih
   obtain ⟨u,hu⟩:=hne _ _ t h2
   exact ⟨u,.step ht h2 h3 h4 hu⟩
theorem core_go {S:It1→Prop} {K:It→Prop} (h:∀x,Core S x↔Cl0 P K x) (s:Int) (x:It):Core (Go1 P S s) x↔Go0 P K s x:=by
 constructor
 ·rintro ⟨t,y,h1,h2,h3⟩
  exact ⟨y,(h y).1 ⟨t,h1⟩,h2,h3⟩
 ·rintro ⟨y,h1,h2,rfl⟩
  obtain ⟨t,ht⟩:=(h y).2 h1
  exact ⟨t,y,ht,h2,rfl⟩
theorem core_cl_go (hne:∀x s t,aft P x=some s→∃u,FI ((rgt P x.1).drop (x.2+1)) t u) {S:It1→Prop} {K:It→Prop} (h:∀x,Core S x↔Cl0 P K x) (s:Int) (x:It):Core (Cl1 P FI (Go1 P S s)) x↔Cl0 P (Go0 P K s) x :=
 (core_cl hne x).trans (Cl0.congr (core_go h s) x)
theorem core_start (hne:∀x s t,aft P x=some s→∃u,FI ((rgt P x.1).drop (x.2+1)) t u) (x:It):Core (Cl1 P FI (fun z=>z=((0,0),0))) x↔Cl0 P (fun x=>x=(0,0)) x :=
 (core_cl hne x).trans (Cl0.congr (fun x=>⟨fun ⟨t,h⟩=>by injection h,fun h=>⟨0,by rw [h]⟩⟩) x)
theorem R1.core (hne:∀x s t,aft P x=some s→∃u,FI ((rgt P x.1).drop (x.2+1)) t u) {S:It1→Prop} (h:R1 P FI S):∃K,R0 P K∧∀x,Core S x↔Cl0 P K x:=by
 induction h with
 | start=>exact ⟨_,.start,core_start hne⟩
 | @step S s h1 h2 ih =>
  obtain ⟨K,hK,hc⟩:=ih
  obtain ⟨⟨x,t⟩,h2⟩:=h2
  exact ⟨_,.step (s:=s) hK ⟨x,(core_go hc s x).1 ⟨t,h2⟩⟩,core_cl_go hne hc s⟩
theorem R0.ne {K:It→Prop} (h:R0 P K):∃x,K x:=by
 cases h with
 | start=>exact ⟨_,rfl⟩
 | step _ h=>exact h
theorem R0.dots {K:It→Prop} (h:R0 P K):(∀x,K x↔x=(0,0))∨∀x,K x→0<x.2:=by
 cases h with
 | start=>exact Or.inl fun _=>Iff.rfl
 | step _ _=>exact Or.inr fun x=>by rintro ⟨y,_,_,rfl⟩;exact Nat.succ_pos _
theorem Cl0.dot {K:It→Prop} {x:It} (h:Cl0 P K x) (hd:0<x.2):K x:=by
 cases h with
 | base h=>exact h
 | step=>exact absurd hd (Nat.lt_irrefl 0)
/-- Kernels with one closure are one. -/
theorem R0.inj {K K':It→Prop} (h:R0 P K) (h':R0 P K') (he:∀x,Cl0 P K x↔Cl0 P K' x) (x:It):K x↔K' x:=by
 have no:∀{K K':It→Prop},(∀x,K x↔x=(0,0))→R0 P K'→(∀x,K' x→0<x.2)→(∀x,Cl0 P K' x→Cl0 P K x)→False:=by
  intro K K' h1 h2 h3 h4
  obtain ⟨y,hy⟩:=h2.ne
  have:=(h1 y).1 ((h4 y (.base hy)).dot (h3 y hy))
  have h5:=h3 y hy
  rw [this] at h5
  exact Nat.lt_irrefl 0 h5
 rcases h.dots with h1 | h1 <;> rcases h'.dots with h2 | h2
 ·rw [h1,h2]
 ·exact (no h1 h' h2 fun x=>(he x).2).elim
 ·exact (no h2 h h1 fun x=>(he x).1).elim
 ·exact ⟨fun hx=>((he x).1 (.base hx)).dot (h1 x hx),fun hx=>((he x).2 (.base hx)).dot (h2 x hx)⟩
end
/-- The order of items. -/
def itLt (x y:It):Prop:=x.1<y.1∨x.1=y.1∧x.2<y.2
theorem srt_ext {α:Type} {lt:α→α→Prop} (hir:∀x,¬lt x x) (htr:∀x y z,lt x y→lt y z→lt x z):∀{a b:List α},a.Pairwise lt→b.Pairwise lt→(∀x,x∈a↔x∈b)→a=b
 | [],[],_,_,_=>rfl
 | [],y::b,_,_,h=>absurd ((h y).2 (by simp)) (by simp)
 | x::a,[],_,_,h=>absurd ((h x).1 (by simp)) (by simp)
 | x::a,y::b,ha,hb,h=>by
  rw [List.pairwise_cons] at ha hb
  have e:x=y:=by
   rcases List.mem_cons.1 ((h x).1 (by simp)) with e | h1
   ·exact e
   ·rcases List.mem_cons.1 ((h y).2 (by simp)) with e | h2
    ·exact e.symm
    ·exact absurd (htr _ _ _ (ha.1 y h2) (hb.1 x h1)) (hir x)
  subst e
  congr 1
  refine srt_ext hir htr ha.2 hb.2 fun z=>⟨fun hz=>?_,fun hz=>?_⟩
  ·rcases List.mem_cons.1 ((h z).1 (by simp [hz])) with e | h1
   ·subst e;exact absurd (ha.1 z hz) (hir z)
   ·exact h1
  ·rcases List.mem_cons.1 ((h z).2 (by simp [hz])) with e | h1
   ·subst e;exact absurd (hb.1 z hz) (hir z)
   ·exact h1
theorem itLt_ir (x:It):¬itLt x x:=by unfold itLt;omega
theorem itLt_tr (x y z:It) (h1:itLt x y) (h2:itLt y z):itLt x z:=by unfold itLt at *;omega
theorem it_ext {a b:List It} (ha:a.Pairwise itLt) (hb:b.Pairwise itLt) (h:∀x,x∈a↔x∈b):a=b:=srt_ext itLt_ir itLt_tr ha hb h
/-- What an automaton's kernels are. -/
structure Lr0 (P:Prs) (ks:List (List It)):Prop where
 start:[(0,0)]∈ks
 r0:∀l∈ks,R0 P (·∈l)
 go:∀l∈ks,∀s,(∃x,Go0 P (·∈l) s x)→∃l'∈ks,∀x,x∈l'↔Go0 P (·∈l) s x
 srt:∀l∈ks,l.Pairwise itLt
 nd:ks.Nodup
/-- What a canonical collection is. -/
structure Lr1 (P:Prs) (FI:List Int→Nat→Nat→Prop) (sts:List (List It1)):Prop where
 start:∃a∈sts,∀z,z∈a↔Cl1 P FI (fun z=>z=((0,0),0)) z
 r1:∀a∈sts,R1 P FI (·∈a)
 go:∀a∈sts,∀s,(∃z,Go1 P (·∈a) s z)→∃a'∈sts,∀z,z∈a'↔Cl1 P FI (Go1 P (·∈a) s) z
section
variable {P:Prs} {FI:List Int→Nat→Nat→Prop} {ks:List (List It)} {sts:List (List It1)}
theorem Go0.congr {K K':It→Prop} (h:∀x,K x↔K' x) (s:Int) (x:It):Go0 P K s x↔Go0 P K' s x :=
 ⟨fun ⟨y,h1,h2,h3⟩=>⟨y,(Cl0.congr h y).1 h1,h2,h3⟩,fun ⟨y,h1,h2,h3⟩=>⟨y,(Cl0.congr h y).2 h1,h2,h3⟩⟩
theorem Lr0.all (h:Lr0 P ks) {K:It→Prop} (hK:R0 P K):∃l∈ks,∀x,x∈l↔K x:=by
 induction hK with
 | start=>exact ⟨_,h.start,fun x=>by simp⟩
 | @step K s h1 h2 ih =>
  obtain ⟨l,hl,he⟩:=ih
  obtain ⟨x,hx⟩:=h2
  obtain ⟨l',hl',he'⟩:=h.go l hl s ⟨x,(Go0.congr he s x).2 hx⟩
  exact ⟨l',hl',fun x=>(he' x).trans (Go0.congr he s x)⟩
theorem Lr1.all (hne:∀x s t,aft P x=some s→∃u,FI ((rgt P x.1).drop (x.2+1)) t u) (h:Lr1 P FI sts) {K:It→Prop} (hK:R0 P K):∃a∈sts,∀x,Core (·∈a) x↔Cl0 P K x:=by
 induction hK with
 | start =>
  obtain ⟨a,ha,he⟩:=h.start
  refine ⟨a,ha,fun x=>Iff.trans ?_ (core_start hne x)⟩
  exact ⟨fun ⟨t,ht⟩=>⟨t,(he _).1 ht⟩,fun ⟨t,ht⟩=>⟨t,(he _).2 ht⟩⟩
 | @step K s h1 h2 ih =>
  obtain ⟨a,ha,he⟩:=ih
  obtain ⟨x,hx⟩:=h2
  obtain ⟨t,ht⟩:=(core_go he s x).2 hx
  obtain ⟨a',ha',he'⟩:=h.go a ha s ⟨_,ht⟩
  refine ⟨a',ha',fun x=>Iff.trans ?_ (core_cl_go hne he s x)⟩
  exact ⟨fun ⟨t,ht⟩=>⟨t,(he' _).1 ht⟩,fun ⟨t,ht⟩=>⟨t,(he' _).2 ht⟩⟩
/-- So many states sts unlike cores; each state's closure is one. -/
theorem cores_eq (hne:∀x s t,aft P x=some s→∃u,FI ((rgt P x.1).drop (x.2+1)) t u) (h0:Lr0 P ks) (h1:Lr1 P FI sts) {cs:List (List It)} (hnd:cs.Nodup) (hsr:∀c∈cs,c.Pairwise itLt) (hc:∀c∈cs,∃a∈sts,∀x,x∈c↔Core (·∈a) x) (ha:∀a∈sts,∃c∈cs,∀x,x∈c↔Core (·∈a) x) :
  cs.length=ks.length∧∀l∈ks,∃c∈cs,∀x,x∈c↔Cl0 P (·∈l) x:=by
 have hf:∀l∈ks,∃c∈cs,∀x,x∈c↔Cl0 P (·∈l) x:=fun l hl=>by
  obtain ⟨a,ha1,he⟩:=h1.all hne (h0.r0 l hl)
  obtain ⟨c,hc1,hc2⟩:=ha a ha1
  exact ⟨c,hc1,fun x=>(hc2 x).trans (he x)⟩
 have hg:∀c∈cs,∃l∈ks,∀x,x∈c↔Cl0 P (·∈l) x:=fun c hc1=>by
  obtain ⟨a,ha1,he⟩:=hc c hc1
  obtain ⟨K,hK,hk⟩:=(h1.r1 a ha1).core hne
  obtain ⟨l,hl,hle⟩:=h0.all hK
  exact ⟨l,hl,fun x=>((he x).trans (hk x)).trans (Cl0.congr (fun x=>(hle x).symm) x)⟩
 classical
 refine ⟨Nat.le_antisymm ?_ ?_,hf⟩
 ·let F:List It→List It:=fun c=>if h:∃l∈ks,∀x,x∈c↔Cl0 P (·∈l) x then Classical.choose h else []
  have hF:∀c∈cs,F c∈ks∧∀x,x∈c↔Cl0 P (·∈F c) x:=fun c hc1=>by
   have h:=hg c hc1
   simp only [F,dif_pos h]
   exact Classical.choose_spec h
  have hnd2:(cs.map F).Nodup:=by
   rw [List.Nodup,List.pairwise_map]
   refine hnd.imp_of_mem fun {a b} ha' hb' hne' e=>hne' (it_ext (hsr _ ha') (hsr _ hb') fun x=>?_)
   rw [(hF a ha').2 x,(hF b hb').2 x,e]
  have:=Go.Px.Scan.nodup_le (m:=ks) hnd2 fun x hx=>by
   obtain ⟨c,hc1,rfl⟩:=List.mem_map.1 hx
   exact (hF c hc1).1
  simpa using this
 ·let F:List It→List It:=fun l=>if h:∃c∈cs,∀x,x∈c↔Cl0 P (·∈l) x then Classical.choose h else []
  have hF:∀l∈ks,F l∈cs∧∀x,x∈F l↔Cl0 P (·∈l) x:=fun l hl=>by
   have h:=hf l hl
   simp only [F,dif_pos h]
   exact Classical.choose_spec h
  have hnd2:(ks.map F).Nodup:=by
   rw [List.Nodup,List.pairwise_map]
   refine h0.nd.imp_of_mem fun {a b} ha' hb' hne' e=>hne' (it_ext (h0.srt _ ha') (h0.srt _ hb') fun x=>?_)
   refine (h0.r0 a ha').inj (h0.r0 b hb') (fun x=>?_) x
   rw [←(hF a ha').2 x,←(hF b hb').2 x,e]
  have:=Go.Px.Scan.nodup_le (m:=cs) hnd2 fun x hx=>by
   obtain ⟨c,hc1,rfl⟩:=List.mem_map.1 hx
   exact (hF c hc1).1
  simpa using this
end
end Go.Px.Cn

/-
  What rows begin with; there is always something.
-/
namespace Go.Px.Cn
open Go.Px
/-- Does a symbol vanish? -/
def vanS (nT:Nat) (null:List Bool) (s:Int):Bool:=decide ((nT:Int)≤s) && null.getD (s-nT).toNat false
/-- What a row begins with. -/
def fstB (nT:Nat) (null:List Bool) (has:List (List Bool)):List Int→Nat→Bool
 | [],_=>false
 | s::r,u=>(has.getD s.toNat []).getD u false || (vanS nT null s && fstB nT null has r u)
def FI (nT:Nat) (null:List Bool) (has:List (List Bool)) (rest:List Int) (t u:Nat):Prop:=fstB nT null has rest u=true∨(rest.all (vanS nT null)=true∧u=t)
/-- What derives a row of terminals. -/
inductive Pd (nT:Nat) (P:Prs):Int→Prop
 | term {x:Int}:0≤x→x<nT→Pd nT P x
 | non {p:Int×List Int×Int}:p∈P→(∀s∈p.2.1,Pd nT P s)→Pd nT P p.1
/-- A table is closed. -/
structure TabOk (nT:Nat) (P:Prs) (null:List Bool) (has:List (List Bool)):Prop where
 nul:∀p∈P,p.2.1.all (vanS nT null)=true→vanS nT null p.1=true
 term:∀i:Nat,i<nT→(has.getD i []).getD i false=true
 row:∀p∈P,∀u,fstB nT null has p.2.1 u=true→(has.getD p.1.toNat []).getD u false=true
section
variable {nT:Nat} {P:Prs} {null:List Bool} {has:List (List Bool)}
theorem row_begin {r:List Int} (h:∀s∈r,vanS nT null s=true∨∃u,(has.getD s.toNat []).getD u false=true):r.all (vanS nT null)=true∨∃u,fstB nT null has r u=true:=by
 induction r with
 | nil=>exact Or.inl rfl
 | cons s r ih =>
  rcases h s (by simp) with h1 | ⟨u,hu⟩
  ·rcases ih fun x hx=>h x (by simp [hx]) with h2 | ⟨u,hu⟩
   ·exact Or.inl (by rw [List.all_cons,h1,h2];rfl)
   ·exact Or.inr ⟨u,by rw [fstB,h1,hu];simp⟩
  ·exact Or.inr ⟨u,by rw [fstB,hu];rfl⟩
theorem Pd.begin (hT:TabOk nT P null has) {s:Int} (h:Pd nT P s):vanS nT null s=true∨∃u,(has.getD s.toNat []).getD u false=true:=by
 induction h with
 | @term x h0 h1=>exact Or.inr ⟨x.toNat,hT.term _ (by omega)⟩
 | @non p h1 h2 ih =>
  rcases row_begin ih with h3 | ⟨u,hu⟩
  ·exact Or.inl (hT.nul p h1 h3)
  ·exact Or.inr ⟨u,hT.row p h1 u hu⟩
/-- There is always something to begin with. -/
theorem fi_ne (hT:TabOk nT P null has) (hP:∀p∈P,∀s∈p.2.1,Pd nT P s) (x:It) (s:Int) (t:Nat) (hx:aft P x=some s):∃u,FI nT null has ((rgt P x.1).drop (x.2+1)) t u:=by
 have hm:∀y∈(rgt P x.1).drop (x.2+1),Pd nT P y:=fun y hy=>by
  have hy:=List.mem_of_mem_drop hy
  unfold rgt at hy
  by_cases hp:x.1<P.length
  ·rw [List.getD_eq_getElem?_getD,List.getElem?_eq_getElem hp] at hy
   exact hP _ (List.getElem_mem hp) y hy
  ·rw [List.getD_eq_getElem?_getD,List.getElem?_eq_none (by omega)] at hy
   simp at hy
 rcases row_begin (null:=null) (has:=has) fun y hy=>(hm y hy).begin hT with h | ⟨u,hu⟩
 ·exact ⟨t,Or.inr ⟨h,rfl⟩⟩
 ·exact ⟨u,Or.inl hu⟩
end
end Go.Px.Cn

/-
  Closures and kernels as lists; the keys of kernels.
-/
namespace Go.Px.Cn
open Go.Px
/-- The items that a symbol brings along. -/
def byP (P:Prs) (s:Int):List Nat:=(List.range P.length).filter fun p=>lft P p=s
def byL (P:Prs) (s:Int):List It:=(byP P s).map fun p=>(p,0)
theorem mem_byL {P:Prs} {s:Int} {x:It}:x∈byL P s↔x.1<P.length∧lft P x.1=s∧x.2=0:=by
 unfold byL byP
 rw [List.mem_map]
 constructor
 ·rintro ⟨p,hp,rfl⟩
  rw [List.mem_filter] at hp
  exact ⟨by simpa using hp.1,by simpa using hp.2,rfl⟩
 ·rintro ⟨h1,h2,h3⟩
  exact ⟨x.1,List.mem_filter.2 ⟨by simpa using h1,by simpa using h2⟩,by rw [←h3]⟩
theorem nodup_lt:∀{n:Nat} {l:List Nat},l.Nodup→(∀x∈l,x<n)→l.length≤n:=fun {n l} h1 h2=>by
 have:=Go.Px.Scan.nodup_le (m:=List.range n) h1 fun x hx=>by simpa using h2 x hx
 simpa using this
theorem byP_nodup (P:Prs):∀{S:List Int},S.Nodup→(S.flatMap (byP P)).Nodup
 | [],_=>by simp
 | s::S,h=>by
  rw [List.nodup_cons] at h
  rw [List.flatMap_cons,List.nodup_append]
  refine ⟨List.Pairwise.filter _ List.nodup_range,byP_nodup P h.2,fun a ha b hb=>?_⟩
  rintro rfl
  obtain ⟨s',hs',hb⟩:=List.mem_flatMap.1 hb
  unfold byP at ha hb
  rw [List.mem_filter] at ha hb
  have e1:lft P a=s:=by simpa using ha.2
  have e2:lft P a=s':=by simpa using hb.2
  exact h.1 (by rw [←e1,e2];exact hs')
/-- So many are brought along at most. -/
theorem byL_len {P:Prs} {S:List Int} (h:S.Nodup):(S.flatMap (byL P)).length≤P.length:=by
 have e:(S.flatMap (byL P)).length=(S.flatMap (byP P)).length:=by
  rw [List.length_flatMap,List.length_flatMap]
  congr 1
  refine List.map_congr_left fun s _=>?_
  unfold byL;simp
 rw [e]
 refine nodup_lt (byP_nodup P h) fun x hx=>?_
 obtain ⟨s,_,hx⟩:=List.mem_flatMap.1 hx
 unfold byP at hx
 rw [List.mem_filter] at hx
 simpa using hx.1
/-- Are these items? -/
def Val (P:Prs) (l:List It):Prop:=∀x∈l,x.1<P.length∧x.2≤(rgt P x.1).length
/-- The closure under way. -/
structure CloI (P:Prs) (items l:List It) (S:List Int) (i:Nat):Prop where
 eq:l=items++S.flatMap (byL P)
 nd:S.Nodup
 sound:∀x∈l,Cl0 P (·∈items) x
 done:∀j x s,j<i→l[j]?=some x→aft P x=some s→s∈S
theorem CloI.start (P:Prs) (items:List It):CloI P items items [] 0:=⟨by simp,by simp,fun x hx => .base hx,fun j x s h=>by omega⟩
theorem CloI.len {P:Prs} {items l:List It} {S:List Int} {i:Nat} (h:CloI P items l S i):l.length≤items.length+P.length:=by
 rw [h.eq,List.length_append]
 have:=byL_len (P:=P) h.nd
 omega
theorem CloI.skip {P:Prs} {items l:List It} {S:List Int} {i:Nat} (h:CloI P items l S i) {x:It} (hx:l[i]?=some x) (hs:∀s,aft P x=some s→s∈S):CloI P items l S (i+1):=by
 refine ⟨h.eq,h.nd,h.sound,fun j y s hj hy ha=>?_⟩
 rcases Nat.lt_or_ge j i with h1 | h1
 ·exact h.done j y s h1 hy ha
 ·have:j=i:=by omega
  subst this
  rw [hx] at hy;injection hy with hy;subst hy
  exact hs s ha
theorem CloI.add {P:Prs} {items l:List It} {S:List Int} {i:Nat} (h:CloI P items l S i) {x:It} {s:Int} (hx:l[i]?=some x) (ha:aft P x=some s) (hs:s∉S):CloI P items (l++byL P s) (S++[s]) (i+1):=by
 refine ⟨by rw [h.eq];simp,?_,fun y hy=>?_,fun j y s' hj hy ha'=>?_⟩
 ·rw [List.nodup_append]
  refine ⟨h.nd,by simp,fun a hm b hb=>?_⟩
  rw [List.mem_singleton] at hb;subst hb
  rintro rfl;exact hs hm
 ·rcases List.mem_append.1 hy with hy | hy
  ·exact h.sound y hy
  ·obtain ⟨h1,h2,h3⟩:=mem_byL.1 hy
   have:=Cl0.step (h.sound x (List.mem_of_getElem? hx)) ha h1 h2
   rw [←h3] at this
   exact this
 ·have hil:=(List.getElem?_eq_some_iff.1 hx).1
  rw [List.getElem?_append_left (by omega)] at hy
  rcases Nat.lt_or_ge j i with h1 | h1
  ·exact List.mem_append_left _ (h.done j y s' h1 hy ha')
  ·have:j=i:=by omega
   subst this
   rw [hx] at hy;injection hy with hy;subst hy
   rw [ha] at ha';injection ha' with ha';subst ha'
   simp
theorem CloI.fin {P:Prs} {items l:List It} {S:List Int} (h:CloI P items l S l.length) (x:It):x∈l↔Cl0 P (·∈items) x:=by
 refine ⟨h.sound x,fun hx=>?_⟩
 induction hx with
 | base h1=>rw [h.eq];exact List.mem_append_left _ h1
 | @step x s q _ h2 h3 h4 ih =>
  obtain ⟨j,hj,rfl⟩:=List.getElem_of_mem ih
  have:=h.done j _ s hj (List.getElem?_eq_getElem hj) h2
  rw [h.eq]
  exact List.mem_append_right _ (List.mem_flatMap.2 ⟨s,this,mem_byL.2 ⟨h3,h4,rfl⟩⟩)
theorem Cl0.val {P:Prs} {items:List It} (h:Val P items) {x:It} (hx:Cl0 P (·∈items) x):x.1<P.length∧x.2≤(rgt P x.1).length:=by
 induction hx with
 | base h1=>exact h _ h1
 | step _ _ h3 _ _=>exact ⟨h3,Nat.zero_le _⟩
theorem Cl0.dotle {P:Prs} {items:List It} {n:Nat} (h:∀x∈items,x.2≤n) {x:It} (hx:Cl0 P (·∈items) x):x.2≤n:=by
 induction hx with
 | base h1=>exact h _ h1
 | step _ _ _ _ _=>exact Nat.zero_le _
/-- The kernel behind a symbol, out of a closure. -/
def kerL (P:Prs) (r:List It) (s:Int):List It:=(r.filter fun x=>aft P x=some s).map fun x=>(x.1,x.2+1)
theorem mem_kerL {P:Prs} {r:List It} {s:Int} {x:It}:x∈kerL P r s↔∃y∈r,aft P y=some s∧x=(y.1,y.2+1):=by
 unfold kerL
 rw [List.mem_map]
 constructor
 ·rintro ⟨y,hy,rfl⟩
  rw [List.mem_filter] at hy
  exact ⟨y,hy.1,by simpa using hy.2,rfl⟩
 ·rintro ⟨y,h1,h2,rfl⟩
  exact ⟨y,List.mem_filter.2 ⟨h1,by simpa using h2⟩,rfl⟩
theorem kerL_srt {P:Prs} {r:List It} (h:r.Pairwise itLt) (s:Int):(kerL P r s).Pairwise itLt:=by
 unfold kerL
 rw [List.pairwise_map]
 refine (h.filter _).imp fun {a b} hab=>?_
 unfold itLt at *
 simp only
 omega
theorem kerL_go {P:Prs} {items r:List It} (h:∀x,x∈r↔Cl0 P (·∈items) x) (s:Int) (x:It):x∈kerL P r s↔Go0 P (·∈items) s x:=by
 rw [mem_kerL]
 exact ⟨fun ⟨y,h1,h2,h3⟩=>⟨y,(h y).1 h1,h2,h3⟩,fun ⟨y,h1,h2,h3⟩=>⟨y,(h y).2 h1,h2,h3⟩⟩
theorem kerL_val {P:Prs} {r:List It} (h:Val P r) (s:Int):Val P (kerL P r s):=by
 intro x hx
 obtain ⟨y,h1,h2,rfl⟩:=mem_kerL.1 hx
 refine ⟨(h y h1).1,?_⟩
 unfold aft at h2
 exact (List.getElem?_eq_some_iff.1 h2).1
theorem kerL_dot {P:Prs} {r:List It} {n:Nat} (h:∀x∈r,x.2≤n) (s:Int):∀x∈kerL P r s,x.2≤n+1:=by
 intro x hx
 obtain ⟨y,h1,h2,rfl⟩:=mem_kerL.1 hx
 have:=h y h1
 show y.2+1≤n+1
 omega
/-- A kernel's text. -/
def keyB (l:List It):List UInt8:=l.flatMap fun x=>[UInt8.ofNat x.1,UInt8.ofNat x.2,UInt8.ofNat (x.2 / 256)]
theorem u8_inj {a b:Nat} (h:UInt8.ofNat a=UInt8.ofNat b):a % 256=b % 256:=by
 have:=congrArg UInt8.toNat h
 simpa using this
theorem keyB_inj:∀{a b:List It},(∀x∈a,x.1<256∧x.2<65536)→(∀x∈b,x.1<256∧x.2<65536)→keyB a=keyB b→a=b
 | [],[],_,_,_=>rfl
 | [],y::b,_,_,h=>by simp [keyB] at h
 | x::a,[],_,_,h=>by simp [keyB] at h
 | x::a,y::b,ha,hb,h=>by
  unfold keyB at h
  simp only [List.flatMap_cons,List.cons_append,List.nil_append] at h
  injection h with h1 h
  injection h with h2 h
  injection h with h3 h
  have:=keyB_inj (fun z hz=>ha z (by simp [hz])) (fun z hz=>hb z (by simp [hz])) h
  have hx:=ha x (by simp)
  have hy:=hb y (by simp)
  have e1:=u8_inj h1
  have e2:=u8_inj h2
  have e3:=u8_inj h3
  rw [this]
  congr 1
  exact Prod.ext (by omega) (by omega)
/-- What an automaton's making has so far: the first n states' edges are laid; of the next one those by symbols D. -/
structure BldI (P:Prs) (ks:List (List It)) (n:Nat):Prop where
 start:ks[0]?=some [(0,0)]
 r0:∀l∈ks,R0 P (·∈l)
 val:∀l∈ks,Val P l
 dot:∀(j:Nat) l,ks[j]?=some l→∀x∈l,x.2≤j
 go:∀(j:Nat) l,j<n→ks[j]?=some l→∀s,(∃x,Go0 P (·∈l) s x)→∃l'∈ks,∀x,x∈l'↔Go0 P (·∈l) s x
 srt:∀l∈ks,l.Pairwise itLt
 nd:ks.Nodup
theorem BldI.fin {P:Prs} {ks:List (List It)} (h:BldI P ks ks.length):Lr0 P ks where
 start:=List.mem_of_getElem? h.start
 r0:=h.r0
 go l hl s hs:=by
  obtain ⟨j,hj,rfl⟩:=List.getElem_of_mem hl
  exact h.go j _ hj (List.getElem?_eq_getElem hj) s hs
 srt:=h.srt
 nd:=h.nd
theorem BldI.first {P:Prs} (hP:0<P.length):BldI P [[(0,0)]] 0 where
 start:=rfl
 r0 l hl:=by
  rw [List.mem_singleton] at hl;subst hl
  have e:(·∈[((0,0):It)])=fun x:It=>x=(0,0):=by funext x;simp
  rw [e];exact .start
 val l hl:=by
  rw [List.mem_singleton] at hl;subst hl
  intro x hx
  rw [List.mem_singleton] at hx;subst hx
  exact ⟨hP,Nat.zero_le _⟩
 dot j l hj:=by
  intro x hx
  match j,hj with
  | 0,hj =>
   injection hj with hj;subst hj
   rw [List.mem_singleton] at hx;subst hx;exact Nat.le_refl 0
  | j+1,hj=>simp at hj
 go j l hj:=by omega
 srt l hl:=by rw [List.mem_singleton] at hl;subst hl;simp
 nd:=by simp
theorem R0.of_go {P:Prs} {ks:List (List It)} {l k:List It} {s:Int} (h:R0 P (·∈l)) (hk:∀x,x∈k↔Go0 P (·∈l) s x) (hne:k≠[]):R0 P (·∈k):=by
 have e:(·∈k)=Go0 P (·∈l) s:=by funext x;exact propext (hk x)
 rw [e]
 refine .step h ?_
 obtain ⟨x,hx⟩:=List.exists_mem_of_ne_nil k hne
 exact ⟨x,(hk x).1 hx⟩
/-- A new state. -/
theorem BldI.snoc {P:Prs} {ks:List (List It)} {i:Nat} (h:BldI P ks i) {l k:List It} {s:Int} (hl:ks[i]?=some l) (hk:∀x,x∈k↔Go0 P (·∈l) s x) (hne:k≠[]) (hv:Val P k) (hd:∀x∈k,x.2≤i+1) (hs:k.Pairwise itLt) (hn:k∉ks):BldI P (ks++[k]) i:=by
 have hil:=(List.getElem?_eq_some_iff.1 hl).1
 refine ⟨?_,fun m hm=>?_,fun m hm=>?_,fun j m hj=>?_,fun j m hj hm s' hx=>?_,fun m hm=>?_,?_⟩
 ·rw [List.getElem?_append_left (by omega)];exact h.start
 ·rcases List.mem_append.1 hm with hm | hm
  ·exact h.r0 m hm
  ·rw [List.mem_singleton] at hm;subst hm
   exact R0.of_go (ks:=ks) (h.r0 l (List.mem_of_getElem? hl)) hk hne
 ·rcases List.mem_append.1 hm with hm | hm
  ·exact h.val m hm
  ·rw [List.mem_singleton] at hm;subst hm;exact hv
 ·rcases Nat.lt_or_ge j ks.length with h1 | h1
  ·rw [List.getElem?_append_left h1] at hj
   exact h.dot j m hj
  ·have hjl:=(List.getElem?_eq_some_iff.1 hj).1
   simp at hjl
   have:j=ks.length:=by omega
   subst this
   rw [List.getElem?_append_right (Nat.le_refl _),Nat.sub_self] at hj
   injection hj with hj;subst hj
   intro x hx
   have:=hd x hx
   omega
 ·rw [List.getElem?_append_left (by omega)] at hm
  obtain ⟨l',h1,h2⟩:=h.go j m hj hm s' hx
  exact ⟨l',List.mem_append_left _ h1,h2⟩
 ·rcases List.mem_append.1 hm with hm | hm
  ·exact h.srt m hm
  ·rw [List.mem_singleton] at hm;subst hm;exact hs
 ·rw [List.nodup_append]
  refine ⟨h.nd,by simp,fun a ha b hb=>?_⟩
  rw [List.mem_singleton] at hb;subst hb
  rintro rfl;exact hn ha
theorem BldI.next {P:Prs} {ks:List (List It)} {i:Nat} (h:BldI P ks i) {l:List It} (hl:ks[i]?=some l) (hg:∀s,(∃x,Go0 P (·∈l) s x)→∃l'∈ks,∀x,x∈l'↔Go0 P (·∈l) s x):BldI P ks (i+1):=by
 refine ⟨h.start,h.r0,h.val,h.dot,fun j m hj hm s hx=>?_,h.srt,h.nd⟩
 rcases Nat.lt_or_ge j i with h1 | h1
 ·exact h.go j m h1 hm s hx
 ·have:j=i:=by omega
  subst this
  rw [hl] at hm;injection hm with hm;subst hm
  exact hg s hx
end Go.Px.Cn

/-
  Items compared: what the sort's closure says.
-/
namespace Go.Px.Cn
open Go.Px
def itV (x:It):List Value:=[.int .i64 x.1,.int .i64 x.2]
def cmpI (x y:Int):Int:=if x<y then -1 else if y<x then 1 else 0
def cmpIt (x y:It):Int:=if cmpI x.1 y.1≠0 then cmpI x.1 y.1 else cmpI x.2 y.2
end Go.Px.Cn
namespace Go.Proofs.Ytmoepnfobnpdiaa
open Go.Px Go.Px.Scan Go.Px.Cn Go.RowKit
attribute [-go_sem] Builtin.append_ cmp_Compare_int.b1_1 cmp_Or_int.b4 cmp_Or_int.b3 lr0_laid_1.b1_1
theorem isNaN_ct (x:Int) (w:World):Ct Try.prog cmp_isNaN_int.id #[.int .i64 x] w fun v w'=>v = .bool false∧w=w':=by
 refine cmp_isNaN_int.ct fun R hR=>?_
 unfold cmp_isNaN_int.run
 simp -dsimp [go_sem]
 exact hR _ _ ⟨rfl,rfl⟩
theorem Compare_ct (x y:Int) (w:World):Ct Try.prog cmp_Compare_int.id #[.int .i64 x,.int .i64 y] w fun v w'=>v = .int .i64 (cmpI x y)∧w=w':=by
 refine cmp_Compare_int.ct fun R hR=>?_
 unfold cmp_Compare_int.run
 simp -dsimp [go_sem]
 refine CALL_of (isNaN_ct x w) ?_
 rintro _ _ ⟨rfl,rfl⟩
 refine CALL_of (isNaN_ct y w) ?_
 rintro _ _ ⟨rfl,rfl⟩
 simp -dsimp [go_sem]
 unfold cmp_Compare_int.b1_1
 simp -dsimp [go_sem]
 refine SPL_intro (fun p1=>?_) (fun p1=>?_) <;> simp at p1
 ·refine hR _ _ ⟨?_,rfl⟩
  unfold cmpI;rw [if_pos p1]
 ·simp -dsimp [go_sem]
  refine SPL_intro (fun p2=>?_) (fun p2=>?_) <;> simp at p2
  ·refine hR _ _ ⟨?_,rfl⟩
   unfold cmpI;rw [if_neg (by omega),if_pos p2]
  ·refine hR _ _ ⟨?_,rfl⟩
   unfold cmpI;rw [if_neg (by omega),if_neg (by omega)]
theorem Or_ct {w:World} {g:Nat} {a b:Int} (ha:w.cell? ⟨g,0,none⟩=some (.int .i64 a)) (hb:w.cell? ⟨g,1,none⟩=some (.int .i64 b)):Ct Try.prog cmp_Or_int.id #[.slice (some ⟨g,0,none⟩) 2 2] w fun v w'=>v = .int .i64 (if a≠0 then a else b)∧w=w':=by
 refine cmp_Or_int.ct fun R hR=>?_
 unfold cmp_Or_int.run
 simp -dsimp [go_sem]
 unfold cmp_Or_int.b4
 simp -dsimp [go_sem]
 refine cmp_Or_int.l6_intro _ _ _ _ _ _ (fun y w'=>∃k:Nat,y = .int .i64 k∧k≤2∧(1≤k→a=0)∧(2≤k→b=0)∧w=w') (fun y _=>2-iv y) ⟨0,rfl,by omega,by omega,by omega,rfl⟩ ?_
 rintro _ _ ⟨k,rfl,hk,h1,h2,rfl⟩ C hC
 simp -dsimp [go_sem]
 refine SPL_intro (fun p1=>?_) (fun p1=>?_) <;> simp at p1
 ·have hk2:k<2:=by omega
  have wk:IntKind.i64.wrap ((k:Int)+1)=(k:Int)+1:=IntWalk.i64_in _ (by omega)
  obtain ⟨c,hc,hcv⟩:∃c,w.cell? ⟨g,k,none⟩=some (.int .i64 c)∧((k=0∧c=a)∨(k=1∧c=b)):=by
   match k,hk2 with
   | 0,_=>exact ⟨a,ha,Or.inl ⟨rfl,rfl⟩⟩
   | 1,_=>exact ⟨b,hb,Or.inr ⟨rfl,rfl⟩⟩
  have hki:(k:Int)<2:=by omega
  simp -dsimp [go_sem,hk2,hki,hc]
  refine SPL_intro (fun p2=>?_) (fun p2=>?_) <;> simp at p2
  ·refine hR _ _ ⟨?_,rfl⟩
   rcases hcv with ⟨rfl,rfl⟩ | ⟨rfl,rfl⟩
   ·rw [if_pos p2]
   ·rw [if_neg (by simpa using h1 (by omega))]
  ·simp -dsimp [go_sem,wk]
   refine hC _ _ ⟨k+1,by simp,by omega,fun _=>?_,fun h=>?_,rfl⟩ (by simp [iv];omega)
   ·rcases hcv with ⟨rfl,rfl⟩ | ⟨rfl,rfl⟩
    ·exact p2
    ·exact h1 (by omega)
   ·rcases hcv with ⟨rfl,rfl⟩ | ⟨rfl,rfl⟩
    ·omega
    ·exact p2
 ·have:k=2:=by omega
  subst this
  unfold cmp_Or_int.b3
  refine hR _ _ ⟨?_,rfl⟩
  rw [if_neg (by simpa using h1 (by omega)),h2 (by omega)]
open Go.Shelf Go.Lib Go.Sort in
theorem cmp_ct (x y:It) (W:World):Ct Try.prog lr0_laid_1.id #[.agg #[.int .i64 x.1,.int .i64 x.2],.agg #[.int .i64 y.1,.int .i64 y.2]] W fun v w'=>v = .int .i64 (cmpIt x y)∧∃q os',w'=grow (W.drewN q) os':=by
 refine lr0_laid_1.ct fun R hR=>?_
 unfold lr0_laid_1.run
 have s2:=((St.refl noB W).alloc #[.int .i64 x.1,.int .i64 x.2] 57).alloc #[.int .i64 y.1,.int .i64 y.2] 57
 have a2:=(s2.box 0 rfl).1.2.1
 have b2:=(s2.box 1 rfl).1.2.1
 simp -dsimp [go_sem]
 have e1:(W.alloc (.cells #[.int .i64 x.1,.int .i64 x.2] 57)).heap.size=W.heap.size+1:=by simp
 rw [e1] at b2
 have hg:∃q os',((W.alloc (.cells #[.int .i64 x.1,.int .i64 x.2] 57)).alloc (.cells #[.int .i64 y.1,.int .i64 y.2] 57)).drew=grow (W.drewN q) os':=⟨1,_,by rw [alloc_eq_grow,alloc_eq_grow,grow_grow];rfl⟩
 have a3:(((W.alloc (.cells #[.int .i64 x.1,.int .i64 x.2] 57)).alloc (.cells #[.int .i64 y.1,.int .i64 y.2] 57)).drew).cell? ⟨W.heap.size,1,none⟩=some (.int .i64 x.2):=a2
 have b3:(((W.alloc (.cells #[.int .i64 x.1,.int .i64 x.2] 57)).alloc (.cells #[.int .i64 y.1,.int .i64 y.2] 57)).drew).cell? ⟨W.heap.size+1,1,none⟩=some (.int .i64 y.2):=b2
 clear a2 b2 s2
 generalize ((W.alloc (.cells #[.int .i64 x.1,.int .i64 x.2] 57)).alloc (.cells #[.int .i64 y.1,.int .i64 y.2] 57)).drew=W2 at hg a3 b3 ⊢
 refine CALL_of (Compare_ct _ _ W2) ?_
 rintro _ _ ⟨rfl,rfl⟩
 simp -dsimp [go_sem,a3,b3]
 refine CALL_of (Compare_ct _ _ W2) ?_
 rintro _ _ ⟨rfl,rfl⟩
 unfold lr0_laid_1.b1_1
 simp -dsimp [go_sem]
 have s3:=(St.refl noB W2).alloc #[.int .i64 (cmpI x.1 y.1),.int .i64 (cmpI x.2 y.2)] 3
 have c3:=(s3.box 0 rfl).1
 refine CALL_of (Or_ct c3.1 c3.2.1) ?_
 rintro _ _ ⟨rfl,rfl⟩
 refine hR _ _ ⟨rfl,?_⟩
 obtain ⟨q,os',rfl⟩:=hg
 exact ⟨q,_,by rw [alloc_eq_grow,grow_grow]⟩
end Go.Proofs.Ytmoepnfobnpdiaa
