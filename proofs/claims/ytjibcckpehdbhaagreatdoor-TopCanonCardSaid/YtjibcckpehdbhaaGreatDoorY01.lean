/-
  Texts of this claim: PxBase, PxRegion, PxCode.
-/
import Derived.WalkKit
import Derived.Deep.Quiet
import Derived.RangeFuncFrom
import Derived.RangeFuncCalls
import Derived.TacticsIn
import Derived.Still
import Derived.Scope
namespace Go.Px
abbrev Qa:=@List.getElem?_eq_some_iff
abbrev Qb:=@List.getElem?_eq_getElem
abbrev Qc:=@List.getD_eq_getElem?_getD
abbrev Qd:=@List.take_succ_eq_append_getElem
abbrev Qe:=@List.mem_of_getElem?
abbrev Qf:=@List.getElem?_append_left
abbrev Qg:=@List.mem_singleton
abbrev Qh:=@List.getElem?_map
abbrev Qi:=@List.getElem?_append_right
abbrev Qj:=@List.getElem_mem
abbrev Qk:=@List.mem_append
abbrev Ql:=@Nat.le_refl
abbrev Qm:=@List.take_length
abbrev Qn:=@List.getElem?_set_self
abbrev Qo:=@List.mem_iff_getElem?
abbrev Qp:=@List.length_map
abbrev Qq:=@List.length_append
abbrev Qr:=@List.mem_map
abbrev Qs:=@List.getElem?_set_ne
abbrev Qt:=@List.pairwise_iff_getElem
abbrev Qu:=@List.map_append
abbrev Qv:=@Classical.byContradiction
abbrev Qw:=@Array.getElem?_eq_some_iff
abbrev Qx:=@List.getElem?_eq_none
abbrev Qy:=@Nat.zero_le
abbrev Qz:=@List.mem_filter
abbrev Q0:=@List.mem_append_left
abbrev Q3:=@List.getElem_of_mem
abbrev Q4:=@Option.map_eq_some_iff
abbrev Q5:=@List.append_assoc
abbrev Q6:=@List.length_take
abbrev Q7:=@List.length_drop
abbrev Q8:=@List.getElem_map
abbrev Q9:=@Array.getD_eq_getD_getElem?
abbrev Qaa:=@List.mem_cons
abbrev Qab:=@List.flatMap_append
abbrev Qac:=@List.set_append_right
abbrev Qad:=@Bool.and_eq_true
abbrev Qae:=@List.filter_append
abbrev Qaf:=@Nat.le_of_ble_eq_true
abbrev Qag:=@List.take_append_drop
abbrev Qah:=@List.length_filter_le
abbrev Qai:=@List.set_getElem_self
abbrev Qaj:=@Nat.lt_of_lt_of_le
abbrev Qak:=@List.nodup_append
abbrev Qal:=@List.eq_nil_of_length_eq_zero
abbrev Qam:=@Nat.sub_self
abbrev Qan:=@List.flatMap_cons
abbrev Qao:=@List.pairwise_append
abbrev Qap:=@List.map_set
abbrev Qaq:=@List.getElem?_set
abbrev Qar:=@List.all_eq_true
abbrev Qas:=@List.append_nil
abbrev Qat:=@List.filter_cons_of_neg
abbrev Qau:=@List.length_set
abbrev Qav:=@Nat.le_trans
abbrev Qaw:=@List.ext_getElem?
abbrev Qax:=@Int.toNat_natCast
abbrev Qay:=@Nat.lt_or_ge
abbrev Qaz:=@List.filter_cons_of_pos
abbrev Qa0:=@List.eq_of_mem_replicate
abbrev Qa1:=@Nat.eq_of_beq_eq_true
abbrev Qa2:=@List.mem_append_right
abbrev Qa3:=@Nat.zero_add
abbrev Qa4:=@List.getElem?_replicate
abbrev Qa5:=@Nat.add_sub_cancel_left
abbrev Qa6:=@List.length_pos_iff
abbrev Qa7:=@List.head?_eq_getElem?
abbrev Qa8:=@Array.toList_replicate
abbrev Qa9:=@List.set_cons_succ
abbrev Qba:=@List.dropLast_concat_getLast
abbrev Qbb:=@Bool.eq_iff_iff
abbrev Qbc:=@List.any_eq_true
abbrev Qbd:=@Nat.lt_of_le_of_lt
abbrev Qbe:=@List.set_set
abbrev Qbf:=@List.filter_eq_nil_iff
abbrev Qbg:=@List.mem_range
abbrev Qbh:=@List.mem_flatMap
abbrev Qbi:=@List.filter_eq_self
abbrev Qbj:=@Array.getElem?_toList
abbrev Qbk:=@List.pairwise_map
abbrev Qbl:=@Bool.or_eq_true
abbrev Qbm:=@List.getElem?_take
abbrev Qbn:=@List.all_append
abbrev Qbo:=@Nat.lt_irrefl
abbrev Qbp:=@List.getElem?_drop
abbrev Qbq:=@List.getElem?_cons_succ
abbrev Qbr:=@Nat.mul_le_mul_right
abbrev Qbs:=@List.find?_cons_of_neg
abbrev Qbt:=@Array.getElem?_eq_getElem
abbrev Qbu:=@List.map_cons
abbrev Qbv:=@List.exists_mem_of_ne_nil
abbrev Qbw:=@Nat.succ_mul
abbrev Qbx:=@Option.map_some
abbrev Qby:=@List.length_singleton
abbrev Qbz:=@List.getElem?_take_of_lt
abbrev Qb0:=@Option.getD_some
abbrev Qb1:=@List.length_cons
abbrev Qb2:=@List.mem_of_mem_drop
abbrev Qb3:=@Nat.add_zero
abbrev Qb4:=@List.size_toArray
abbrev Qb5:=@Bool.eq_false_iff
abbrev Qb6:=@List.getElem_drop
abbrev Qb7:=@Nat.mul_one
abbrev Qb8:=@Nat.min_eq_left
abbrev Qb9:=@List.pairwise_lt_range
abbrev Qca:=@Array.getElem?_append_left
abbrev Qcb:=@List.not_mem_nil
abbrev Qcc:=@List.pairwise_cons
abbrev Qcd:=@Nat.eq_zero_or_pos
abbrev Qce:=@List.length_replicate
abbrev Qcf:=@List.mem_cons_of_mem
abbrev Qcg:=@List.nodup_cons
abbrev Qch:=@List.range_succ
abbrev Qci:=@List.length_range
abbrev Qcj:=@List.getElem_take
abbrev Qck:=@Nat.add_assoc
abbrev Qcl:=@List.length_eq_zero_iff
abbrev Qcm:=@Bool.true_and
abbrev Qcn:=@List.getLast?_eq_some_getLast
abbrev Qco:=@Nat.mul_le_mul
abbrev Qcp:=@List.getElem_cons_zero
abbrev Qcq:=@List.map_replicate
abbrev Qcr:=@Nat.one_mul
abbrev Qcs:=@Nat.not_lt_zero
abbrev Qct:=@List.Pairwise.filter
abbrev Qcu:=@List.mem_of_find?_eq_some
abbrev Qcv:=@List.mem_or_eq_of_mem_set
abbrev Qcw:=@Nat.shiftRight_eq_div_pow
abbrev Qcx:=@Array.toList_inj
abbrev Qcy:=@List.set_cons_zero
abbrev Qcz:=@List.nil_append
abbrev Qc0:=@List.findIdx?_eq_some_iff_getElem
abbrev Qc1:=@Array.getElem?_setIfInBounds_ne
abbrev Qc2:=@List.filter_congr
abbrev Qc3:=@List.getElem?_toArray
abbrev Qc4:=@Array.getElem?_modify
abbrev Qc5:=@List.Nodup.length_le_of_subset
abbrev Qc6:=@Nat.shiftLeft_eq
abbrev Qc7:=@List.nodup_range
abbrev Qc8:=@Nat.le_of_not_lt
abbrev Qc9:=@List.getElem?_range'
abbrev Qda:=@List.mem_of_mem_take
abbrev Qdb:=@List.set_append_left
abbrev Qdc:=@Bool.or_false
abbrev Qdd:=@List.mem_zipIdx_iff_getElem?
abbrev Qde:=@List.take_left'
abbrev Qdf:=@List.getElem?_range
abbrev Qdg:=@List.map_congr_left
abbrev Qdh:=@List.find?_eq_none
abbrev Qdi:=@List.zipIdx_append
abbrev Qdj:=@List.drop_zero
abbrev Qdk:=@Nat.lt_trichotomy
abbrev Qdl:=@List.all_eq_false
abbrev Qdm:=@List.nodup_range'
abbrev Qdn:=@List.foldl_append
abbrev Qdo:=@List.sum_cons
abbrev Qdp:=@List.flatMap_map
abbrev Qdq:=@Option.getD_none
abbrev Qdr:=@List.any_append
abbrev Qds:=@List.map_map
abbrev Qdt:=@Nat.add_mul
abbrev Qdu:=@Int.le_refl
end Go.Px
namespace Go.Px
abbrev Env:=Nat->Value
def upd (ρ:Env):Option Tmp->Value->Env
 | none,_=>ρ
 | some d,v=>λ n=>cond (Nat.beq n d) v (ρ n)
def ev (ρ:Env):Operand->Value
 | .tmp t=>ρ t
 | .const v=>v
 | .global g=> .pointer (some ⟨g,0,none⟩)
 | .func f=> .func (.func f) #[] #[]
def Zfc (l:List Value):Env:=λ n=>l.getD n undef
structure Rel (N:Nat)(a:Act)(ρ:Env)(D:List Deferred:=[]):Prop where
 size:a.tmps.size=N
 get:∀n,a.tmps.getD n undef=ρ n
 defers:a.defers=D
theorem Rel.eval {N:Nat}{a:Act}{ρ:Env}{D:List Deferred}(h:Rel N a ρ D):a.eval=ev ρ:=by
 funext x
 cases x with
 | tmp t=>exact h.get t
 | _=>rfl
def Zng (N:Nat):Option Tmp->Bool
 | none=>true
 | some d=>Nat.blt d N
theorem Rel.put {N:Nat}{a:Act}{ρ:Env}{D:List Deferred}(h:Rel N a ρ D){d:Option Tmp}(hd:Zng N d=true)(v:Value):Rel N (a.put d v) (upd ρ d v) D:=by
 cases d with
 | none=>exact h
 | some d=>
  have hd':d<N:=by simpa[Zng,Nat.blt_eq]using hd
  refine ⟨by simp[Act.put,h.size],λ n=>?_,h.defers⟩;have hg:=h.get n;simp only[Act.put,upd];by_cases hn:n=d
  ·subst hn;simp[h.size,hd']
  ·have:(Nat.beq n d)=false:=by
    cases h:Nat.beq n d with
    | false=>rfl
    | true=>exact absurd (Qa1 h) hn
   rw[this];simp only[cond_false];rw[<-hg];simp only[Q9];rw[Qc1 (by omega)]
def Tok {α:Sort _}(_:α):Type:=Unit
def tok {α:Sort _}(a:α):Tok a:=()
abbrev Pan:=List PanicEntry->World->Prop
def RUN (P:Program)(X:Pan)(s:Sem Value)(w:World)(K:Value->World->Prop)(_x:Tok X:=tok X)(_k:Tok K:=tok K):Prop :=
 match s.run P w with
 | .ok v w'=>K v w'
 | .halt (.panic v) w'=>X [{v,recovered:=false }] w'
 | _=>False
def RUNU (P:Program)(X:Pan)(s:Sem Unit)(w:World)(K:World->Prop)(_x:Tok X:=tok X)(_k:Tok K:=tok K):Prop :=
 match s.run P w with
 | .ok _ w'=>K w'
 | .halt (.panic v) w'=>X [{v,recovered:=false }] w'
 | _=>False
def RUNN (P:Program)(X:Pan)(s:Sem Next)(w:World)(K:Value->World->Prop):Prop :=
 match s.run P w with
 | .ok (.value v) w'=>K v w'
 | .ok .skip w'=>K undef w'
 | .ok (.enter f args) w'=>Calls P f args w' fun
   | .returned v,w''=>K v w''
   | .panicked ch,w''=>X ch w''
   | .outgrown,_=>False
 | .ok (.row row args) w'=>Rows P row args w' K
 | .halt (.panic v) w'=>X [{v,recovered:=false }] w'
 | _=>False
def CALL (P:Program)(X:Pan)(f:FuncId)(args:Array Value)(w:World)(K:Value->World->Prop)(_x:Tok X:=tok X)(_k:Tok K:=tok K):Prop:=RUNN P X (callFunc f args) w K
def Zpi (P:Program)(X:Pan)(f:Value)(args:List Value)(w:World)(K:Value->World->Prop)(_x:Tok X:=tok X)(_k:Tok K:=tok K):Prop :=
 match f with
 | .func (.func g) first cap=>CALL P X g (first.toList++args++cap.toList).toArray w K
 | _=>False
def YIELD (P:Program)(X:Pan)(l:Nat)(args:Array Value)(w:World)(K:Value->World->Prop)(_x:Tok X:=tok X)(_k:Tok K:=tok K):Prop :=
 YieldAt Fence.wide 0 P l args w fun
  | .returned v,w'=>K v w'
  | .panicked ch,w'=>X ch w'
  | .outgrown,_=>False
def Zfa (P:Program)(X:Pan)(f:Value)(args:List Value)(w:World)(K:Value->World->Prop)(_x:Tok X:=tok X)(_k:Tok K:=tok K):Prop :=
 match f with
 | .func (.func g) first cap=>CALL P X g (first.toList++args++cap.toList).toArray w K
 | .func (.yield l) first _=>YIELD P X l (first.toList++args).toArray w K
 | _=>False
def PICK (c a b:Value)(K:Value->Prop)(_k:Tok K:=tok K):Prop :=
 match c with
 | .bool t=>K (cond t a b)
 | _=>False
def NILC (v:Value)(K:Value->Prop)(_k:Tok K:=tok K):Prop :=
 match v with
 | .pointer none | .nilIface | .nilFunc=>False
 | .func (.method _) _ _=>False
 | v=>K v
def SPL (v:Value)(A B:Prop)(_a:Tok A:=tok A)(_b:Tok B:=tok B):Prop :=
 match v with
 | .bool true=>A
 | .bool false=>B
 | _=>False
def Zef (v:Value)(F:Bool->Prop):Prop:=SPL v (F true) (F false)
def bins (op:BinOp)(t:TypeId)(x y:Operand)(a b:Value):Sem Value:=do eqGuard op t x y a b;binOp op t a b
inductive RK where
 | pure | load | eff
def rkind:Op->RK
 | .move _ | .assign _ | .pick .. | .nilCheck _ | .fieldAddr .. | .indexAddr .. | .binOp .. | .unOp .. | .extract .. | .field .. | .index .. | .slice .. | .build .. | .makeFunc .. | .makeInterface ..=> .pure
 | .load .. | .lookup .. | .convert ..=> .load
 | .call {callee := .builtin .len,.. } | .call {callee := .builtin .cap,.. }=> .load
 | _=> .eff
def Zr1 (op:Op)(ty:TypeId)(e:Operand->Value):Option (Sem Value) :=
 match op with
 | .alloc t=>some (Instr.alloc t true (.tuple #[]))
 | .box t x=>some (Instr.box t (e x))
 | .build t parts=>some (Instr.build t (parts.toList.map λ p=>(p.1,e p.2)).toArray)
 | .buildSlice t len parts=>some (Instr.buildSlice t len (parts.toList.map λ p=>(p.1,e p.2)).toArray)
 | .load t a=>some (Instr.loadAt t (e a))
 | .binOp op t x y _=>some (bins op t x y (e x) (e y))
 | .unOp op _ x=>some (Op.unary op (e x))
 | .convert s d x=>some (convert s d (e x))
 | .makeInterface t x=>some (Instr.makeInterface t (e x))
 | .makeFunc fn first cap=>some (Instr.makeFunc fn (first.toList.map e).toArray (cap.toList.map e).toArray)
 | .makeMap t r=>some (Instr.makeMap t (r.map e))
 | .makeSlice t l c=>some (Instr.makeSlice t (e l) (e c))
 | .slice t x lo hi mx=>some (Instr.sliceAt t (e x) (lo.map e) (hi.map e) (mx.map e))
 | .fieldAddr s x f=>some (Instr.fieldAt s (e x) f)
 | .field t x f=>some (Instr.field t (e x) f)
 | .indexAddr t x i=>some (Instr.indexAt t (e x) (e i))
 | .index t x i=>some (Instr.index t (e x) (e i))
 | .lookup t x i ok=>some (Instr.lookup t (e x) (e i) ok)
 | .mapEntry t m k=>some (Instr.mapEntry t (e m) (e k))
 | .range t x=>some (Instr.range t (e x))
 | .next it s=>some (Instr.next (e it) s ty)
 | .entry it=>some (Instr.entry (e it))
 | .typeAssert x t u ok=>some (Instr.typeAssert (e x) t u ok)
 | .extract t i=>some (Instr.extract (e t) i)
 | .panic x=>some (Instr.panic (e x))
 | .call c=>
  match c.callee with
  | .builtin .append=>some (Builtin.append_ c.argTypes ty (c.args.toList.map e).toArray)
  | .builtin .len=>some (Builtin.len_ c.argTypes ty (c.args.toList.map e).toArray)
  | .builtin .cap=>some (Builtin.cap_ c.argTypes ty (c.args.toList.map e).toArray)
  | .builtin .copy=>some (Builtin.copy_ c.argTypes ty (c.args.toList.map e).toArray)
  | .builtin .delete=>some (Builtin.delete_ c.argTypes ty (c.args.toList.map e).toArray)
  | .builtin .clear=>some (Builtin.clear_ c.argTypes ty (c.args.toList.map e).toArray)
  | .builtin .min=>some (Builtin.min_ c.argTypes ty (c.args.toList.map e).toArray)
  | .builtin .max=>some (Builtin.max_ c.argTypes ty (c.args.toList.map e).toArray)
  | .builtin .unsafeString=>some (Builtin.unsafeString_ c.argTypes ty (c.args.toList.map e).toArray)
  | .builtin .unsafeSliceData=>some (Builtin.unsafeSliceData_ c.argTypes ty (c.args.toList.map e).toArray)
  | _=>none
 | _=>none
def opP (P:Program)(X:Pan)(op:Op)(ty:TypeId)(e:Operand->Value)(w:World)(K:Value->World->Prop):Prop :=
 match op with
 | .move x=>K (e x) w
 | .assign x=>K (e x) w
 | .pick c a b=>PICK (e c) (e a) (e b) λ v=>K v w
 | .nilCheck x=>NILC (e x) λ v=>K v w
 | .store t a x=>RUNU P X (Instr.storeAt t (e a) (e x)) w λ w'=>K undef w'
 | .mapUpdate t m k x=>RUNU P X (Instr.mapUpdate t (e m) (e k) (e x)) w λ w'=>K undef w'
 | .insert t m k x=>RUNU P X (Instr.mapUpdate t (e m) (e k) (e x)) w λ w'=>K undef w'
 | .entryStore t m s x=>RUNU P X (Instr.entryStore t (e m) (e s) (e x)) w λ w'=>K undef w'
 | .call {callee := .value f,args,.. }=>Zpi P X (e f) (args.toList.map e) w K
 | op=>
  match Zr1 op ty e with
  | some s=>RUN P X s w K
  | none=>False
def opQ (P:Program)(X:Pan)(op:Op)(ty:TypeId)(e:Operand->Value)(w:World)(K:Value->World->Prop):Prop :=
 match op with
 | .call {callee := .value f,args,.. }=>Zfa P X (e f) (args.toList.map e) w K
 | op=>opP P X op ty e w K
theorem Zb3 {P:Program}{X:Pan}{s:Sem Value}{w:World}{K:Value->World->Prop}{o:Oper}{a:Act}{next:Act->World->Prop}{Q:Exit->Act->World->Prop}
  (h:RUN P X s w K) (hX:∀ch w',X ch w'->Q (.panic ch) a w') (hK:∀v w',K v w'->next (a.put o.dst v) w') :
  o.upon P a next Q ((do pure (.value (<-s)):Sem Next).run P w):=by
 unfold RUN at h;simp only[Sem.run_bind];split at h
 ·rename_i v w' hr;simp only[hr,Result.andThen_ok,Sem.run_pure];exact hK _ _ h
 ·rename_i v w' hr;rw[hr];exact hX _ _ h
 ·exact h.elim
theorem Zhl {P:Program}{X:Pan}{s:Sem Unit}{w:World}{K:World->Prop}{o:Oper}{a:Act}{next:Act->World->Prop}{Q:Exit->Act->World->Prop}
  (h:RUNU P X s w K) (hX:∀ch w',X ch w'->Q (.panic ch) a w') (hK:∀w',K w'->next (a.put o.dst undef) w') :
  o.upon P a next Q ((do s;pure .skip:Sem Next).run P w):=by
 unfold RUNU at h;simp only[Sem.run_bind];split at h
 ·rename_i v w' hr;simp only[hr,Result.andThen_ok,Sem.run_pure];exact hK _ h
 ·rename_i v w' hr;rw[hr];exact hX _ _ h
 ·exact h.elim
theorem Zu3 {P:Program}{X:Pan}{s:Sem Next}{w:World}{K:Value->World->Prop}{o:Oper}{a:Act}{next:Act->World->Prop}{Q:Exit->Act->World->Prop}
  (h:RUNN P X s w K) (hX:∀ch w',X ch w'->Q (.panic ch) a w') (hK:∀v w',K v w'->next (a.put o.dst v) w') :
  o.upon P a next Q (s.run P w):=by
 unfold RUNN at h;split at h
 ·rename_i v w' hr;rw[hr];exact hK _ _ h
 ·rename_i w' hr;rw[hr];exact hK _ _ h
 ·rename_i f args w' hr;rw[hr];refine h.mono λ e w'' he=>?_
  cases e with
  | returned v=>exact hK _ _ he
  | panicked ch=>exact hX _ _ he
  | outgrown=>exact he.elim
 ·rename_i row args w' hr;rw[hr];exact h.mono λ v w' hv=>hK _ _ hv
 ·rename_i v w' hr;rw[hr];exact hX _ _ h
 ·exact h.elim
theorem Zgd (c:Array Operand)(e:Operand->Value):c.map e=(c.toList.map e).toArray:=by
 apply Array.ext';simp
theorem Zg6 (c:Array (Nat×Operand))(e:Operand->Value):(c.map λ (i,x)=>(i,e x))=(c.toList.map λ p=>(p.1,e p.2)).toArray:=by
 apply Array.ext';simp
theorem Zj2 {P:Program}{X:Pan}{o:Oper}{e:Operand->Value}{w:World}{K:Value->World->Prop}{a:Act}{next:Act->World->Prop}{Q:Exit->Act->World->Prop}
  (h:opP P X o.op o.type e w K) (hX:∀ch w',X ch w'->Q (.panic ch) a w') (hK:∀v w',K v w'->next (a.put o.dst v) w') :
  o.upon P a next Q ((execOp e o).run P w):=by
 obtain ⟨dst,op,ty,pos,after,guard⟩:=o;unfold execOp
 cases op with
 | move x=>simp only[Sem.run_pure];exact hK _ _ h
 | assign x=>simp only[Sem.run_pure];exact hK _ _ h
 | pick c x y=>
  simp only[opP,PICK]at h;split at h
  ·rename_i t ht;simp only[ht,asBool,Sem.run_bind,Sem.run_pure,Result.andThen_ok];cases t<;>exact hK _ _ h
  ·exact h.elim
 | nilCheck x=>
  simp only[opP,NILC]at h;simp only[];split at h
  ·exact h.elim
  ·exact h.elim
  ·exact h.elim
  ·exact h.elim
  ·rename_i h1 h2 h3 h4;split<;>first
    | (rename_i hx;exact absurd hx h1)
    | (rename_i hx;exact absurd hx h2)
    | (rename_i hx;exact absurd hx h3)
    | (rename_i hx;exact absurd hx (h4 _ _ _))
    | (simp only[Sem.run_pure];exact hK _ _ h)
 | store t x y=>exact Zhl h hX (λ w' hw=>hK _ _ hw)
 | mapUpdate t m k x=>exact Zhl h hX (λ w' hw=>hK _ _ hw)
 | insert t m k x=>exact Zhl h hX (λ w' hw=>hK _ _ hw)
 | entryStore t m k x=>exact Zhl h hX (λ w' hw=>hK _ _ hw)
 | alloc t=>exact Zb3 h hX hK
 | box t x=>exact Zb3 h hX hK
 | build t ps=>simp only[Zg6];exact Zb3 h hX hK
 | buildSlice t n ps=>simp only[Zg6];exact Zb3 h hX hK
 | load t x=>exact Zb3 h hX hK
 | binOp op t x y u=>exact Zb3 h hX hK
 | unOp op t x=>exact Zb3 h hX hK
 | convert s d x=>exact Zb3 h hX hK
 | makeInterface t x=>exact Zb3 h hX hK
 | makeFunc fn f c=>simp only[Zgd];exact Zb3 h hX hK
 | makeMap t r=>exact Zb3 h hX hK
 | makeSlice t l c=>exact Zb3 h hX hK
 | slice t x l hi m=>exact Zb3 h hX hK
 | fieldAddr s x f=>exact Zb3 h hX hK
 | field s x f=>exact Zb3 h hX hK
 | indexAddr s x f=>exact Zb3 h hX hK
 | index s x f=>exact Zb3 h hX hK
 | lookup s x f ok=>exact Zb3 h hX hK
 | mapEntry s x f=>exact Zb3 h hX hK
 | range s x=>exact Zb3 h hX hK
 | next s x=>exact Zb3 h hX hK
 | entry s=>exact Zb3 h hX hK
 | typeAssert x t u ok=>exact Zb3 h hX hK
 | extract t i=>exact Zb3 h hX hK
 | panic x=>exact Zb3 h hX hK
 | call c=>
  obtain ⟨callee,args,argTypes⟩:=c
  cases callee with
  | value f=>
   simp only[opP,Zpi]at h;split at h
   ·rename_i g first cap hf;have hargs:first++args.map e++cap=(first.toList++args.toList.map e++cap.toList).toArray:=by
     apply Array.ext';simp
    simp only[resolve,Deferred.ofValue,hf,Sem.run_bind,Sem.run_pure,Result.andThen_ok,invoke,hargs];exact Zu3 h hX hK
   ·exact h.elim
  | invoke r m=>simp[opP,Zr1]at h
  | builtin b=>
   cases b<;>simp only[opP,Zr1]at h<;>first
    | exact h.elim
    | (simp only[resolve,invoke,builtin,Sem.run_bind,Sem.run_pure,Result.andThen_ok,Zgd]
       have:=Zb3 (o:=⟨dst,.call ⟨.builtin _,args,argTypes⟩,ty,pos,after,guard⟩) h hX hK
       simpa only[Sem.run_bind,Sem.run_pure]using this)
 | _=>simp[opP,Zr1]at h
theorem Ze5 {P:Program}{o:Oper}{a:Act}{next:Act->World->Prop}{Q:Exit->Act->World->Prop}{n:Nat}{r:Result Next}(h:o.upon P a next Q r):o.uponIn Fence.wide n P a next Q r:=by
 cases r with
 | ok x w'=>
  cases x with
  | enter f args=>exact ⟨λ h=>by simp[Fence.wide]at h,callsIn_wide.2 h⟩
  | row row args=>
   refine ⟨λ h=>by simp[Fence.wide]at h,λ c cs _=>?_⟩;obtain ⟨v,w'',hr,hs⟩:=h c cs;exact ⟨v,w'',hr,stepsIn_wide.2 hs⟩
  | value v=>exact h
  | skip=>exact h
  | defer d=>exact h
  | _=>exact h.elim
 | halt x w'=>
  cases x with
  | panic v=>exact h
  | _=>exact h.elim
theorem Zvn {P:Program}{X:Pan}{o:Oper}{e:Operand->Value}{w:World}{K:Value->World->Prop}{a:Act}{next:Act->World->Prop}{Q:Exit->Act->World->Prop}
  (h:opQ P X o.op o.type e w K) (hX:∀ch w',X ch w'->Q (.panic ch) a w') (hK:∀v w',K v w'->next (a.put o.dst v) w') :
  o.uponIn Fence.wide 0 P a next Q ((execOp e o).run P w):=by
 by_cases hv:∃f args ts,o.op = .call ⟨.value f,args,ts⟩
 ·obtain ⟨f,args,ts,hop⟩:=hv;rw[hop]at h;simp only[opQ]at h;by_cases hy:∃l first cap,e f = .func (.yield l) first cap
  ·obtain ⟨l,first,cap,hf⟩:=hy;rw[hf]at h;obtain ⟨fn,tmps,assign,body,hrun,hr⟩:=h;have hargs:first++args.map e=(first.toList++args.toList.map e).toArray:=by
    apply Array.ext';simp
   have hx:(execOp e o).run P w = .ok (.round l fn tmps assign body) w:=by
    obtain ⟨dst,op,ty,pos,after,guard⟩:=o;simp only at hop;subst hop;unfold execOp;simp only[resolve,Deferred.ofValue,hf,Sem.run_bind,Sem.run_pure,Result.andThen_ok,invoke,hargs];exact hrun
   rw[hx];refine ⟨λ h=>by simp[Fence.wide]at h,hr.mono λ ev w' he=>?_⟩
   cases ev with
   | returned v=>exact hK _ _ he
   | panicked ch=>exact hX _ _ he
   | outgrown=>exact he.elim
  ·refine Ze5 (Zj2 (K:=K) (X:=X) ?_ hX hK);rw[hop];simp only[opP];unfold Zfa at h;split at h
   ·rename_i hf;rw[hf];exact h
   ·rename_i hf;exact absurd ⟨_,_,_,hf⟩ hy
   ·exact h.elim
 ·refine Ze5 (Zj2 (K:=K) (X:=X) ?_ hX hK);unfold opQ at h;split at h
  ·rename_i f args ts hop;exact absurd ⟨_,_,_,hop⟩ hv
  ·exact h
attribute [irreducible] RUN RUNU RUNN CALL
section
variable {P:Program} {ops:Array Oper}
def gval (ops:Array Oper)(ρ:Env)(j:Nat):Value :=
 match (ops.toList[j]?).bind (·.dst) with
 | some d=>ρ d
 | none=>undef
def Zen (ops:Array Oper)(k:Nat):Bool:=ops.toList.any λ o=>match o.guard with | some (j,_)=>Nat.beq j k | none=>false
def GOK (g:Value)(want:Bool)(A B:Prop):Prop :=
 match g,want with
 | .bool true,true=>A
 | .bool false,false=>A
 | _,_=>B
def Zlj (N:Nat)(ops:Array Oper):Bool:=ops.toList.all λ o=>Zng N o.dst
theorem Zo6 {N:Nat}{a:Act}{ρ:Env}{D:List Deferred}(h:Rel N a ρ D)(hd:Zlj N ops=true)(j:Nat) :
  yielded ops a.tmps j=match gval ops ρ j with | .bool b=>some b | _=>none:=by
 unfold yielded gval;rw[<-Qbj]
 cases ho:ops.toList[j]? with
 | none=>rfl
 | some o=>
  cases hdst:o.dst with
  | none=>simp only[Option.bind_some,hdst];rfl
  | some d=>
   simp only[Option.bind_some,hdst];have hin:Zng N (some d)=true:=by
    have:=Qar.1 hd o (Qe ho);rwa [hdst]at this
   have hlt:d<a.tmps.size:=by rw[h.size];simpa[Zng,Nat.blt_eq]using hin
   have hg:=h.get d;rw[Q9,Qbt hlt]at hg;rw[Qbt hlt];simp only[Qb0]at hg;rw[hg];cases ρ d<;>rfl
theorem Zhc {o:Oper}(h:o.guard=none)(y:Nat->Option Bool):Region.wanted o y=true:=by simp[Region.wanted,h]
theorem Zg1 {N:Nat}{a:Act}{ρ:Env}{D:List Deferred}(h:Rel N a ρ D)(hd:Zlj N ops=true){o:Oper}{j:Nat}{want:Bool}(hg:o.guard=some (j,want)){A B:Prop}
  (H:GOK (gval ops ρ j) want A B):(Region.wanted o (yielded ops a.tmps)=true/\A)\/(Region.wanted o (yielded ops a.tmps)=false/\B):=by
 have hw:Region.wanted o (yielded ops a.tmps)=((match gval ops ρ j with | .bool b=>some b | _=>none) == some want):=by
  unfold Region.wanted;rw[hg];simp only[];rw[Zo6 h hd]
 rw[hw];unfold GOK at H;clear hw;generalize gval ops ρ j=g at *
 cases g with
 | bool b=>cases b<;>cases want<;>first | exact .inl ⟨rfl,H⟩ | exact .inr ⟨rfl,H⟩
 | _=>exact .inr ⟨rfl,H⟩
def opsP (P:Program)(X:Pan)(ops:Array Oper):Nat->List Oper->Env->World->(Env->World->Prop)->Prop
 | _,[],ρ,w,K=>K ρ w
 | k,o::rest,ρ,w,K=>
  let run:Prop:=opQ P X o.op o.type (ev ρ) w λ v w'=>
   match Zen ops k with
   | true=>Zef v λ b=>opsP P X ops (k+1) rest (upd ρ o.dst (.bool b)) w' K
   | false=>opsP P X ops (k+1) rest (upd ρ o.dst v) w' K
  match o.guard with
  | none=>run
  | some (j,want)=>GOK (gval ops ρ j) want run (opsP P X ops (k+1) rest (upd ρ o.dst undef) w K)
theorem Zd5 {v:Value}{F:Bool->Prop}(h:Zef v F):∃b,v = .bool b/\F b:=by
 unfold Zef SPL at h;split at h
 ·exact ⟨_,rfl,h⟩
 ·exact ⟨_,rfl,h⟩
 ·exact h.elim
theorem Zll {X:Pan}{N:Nat}{D:List Deferred}{Q:Exit->Act->World->Prop}(hX:∀ch a w,a.defers=D->X ch w->Q (.panic ch) a w)(hd:Zlj N ops=true){K:Env->World->Prop}(hK:∀a ρ w,Rel N a ρ D->K ρ w->Q .normal a w) :
  ∀(l:List Oper) (k:Nat) (ρ:Env) (a:Act) (w:World),(∀o∈l,Zng N o.dst=true)->Rel N a ρ D->opsP P X ops k l ρ w K->wpListIn Fence.wide 0 P ops Q l a w:=by
 intro l
 induction l with
 | nil=>intro k ρ a w _ hr h;exact hK _ _ _ hr h
 | cons o rest ih=>
  intro k ρ a w hin hr h;have hdo:=hin o (by simp);have hrest:∀o∈rest,Zng N o.dst=true:=λ o ho=>hin o (by simp[ho]);have run:(opQ P X o.op o.type (ev ρ) w λ v w'=>match Zen ops k with
    | true=>Zef v λ b=>opsP P X ops (k+1) rest (upd ρ o.dst (.bool b)) w' K
    | false=>opsP P X ops (k+1) rest (upd ρ o.dst v) w' K)->o.wpIn Fence.wide 0 P a w (wpListIn Fence.wide 0 P ops Q rest) Q:=λ h=>by
   refine ⟨λ _ _=>trivial,?_⟩
   show o.uponIn Fence.wide 0 P a _ Q ((execOp a.eval o).run P w)
   rw[hr.eval];refine Zvn h (λ ch w' hx=>hX _ _ _ hr.defers hx) λ v w' hv=>?_;split at hv
   ·obtain ⟨b,rfl,hb⟩:=Zd5 hv;exact ih _ _ _ _ hrest (hr.put hdo _) hb
   ·exact ih _ _ _ _ hrest (hr.put hdo _) hv
  unfold opsP at h;simp only[wpListIn]
  cases hg:o.guard with
  | none=>
   rw[hg]at h;rw[if_pos (Zhc hg _)];exact run h
  | some g=>
   obtain ⟨j,want⟩:=g;rw[hg]at h;rcases Zg1 hr hd hg h with ⟨hw,hA⟩|⟨hw,hB⟩
   ·rw[if_pos hw];exact run hA
   ·rw[if_neg (by rw[hw];simp)];exact ⟨λ _ _=>trivial,ih _ _ _ _ hrest (hr.put hdo _) hB⟩
def direct (ops:Array Oper)(j i:Nat):Bool :=
 match ops.toList[j]? with
 | some o=>o.after.toList.any λ e=>Region.binds .any e && Nat.beq e.on i
 | none=>false
def reach (ops:Array Oper):Nat->Nat->Nat->Bool
 | 0,_,_=>false
 | n+1,j,i=>direct ops j i || (match ops.toList[j]? with
  | some o=>o.after.toList.any λ e=>Region.binds .any e && reach ops n e.on i
  | none=>false)
def Zi4 (ops:Array Oper)(L:Array Bool):Prop:=∀j i,L.getD j false=true->j<ops.size->direct ops j i=true->L.getD i false=true
theorem Ziu {L:Array Bool}{j:Nat}(h:j∈Region.ready .any ops L){i:Nat}(hd:direct ops j i=true):L.getD i false=true:=by
 obtain ⟨_,o,ho,hall⟩:=mem_ready.1 h;unfold direct at hd;rw[Qbj,ho]at hd;obtain ⟨e,he,hb⟩:=Qbc.1 hd;simp only[Qad]at hb;have:=hall e (by simpa using he) hb.1;rwa [Qa1 hb.2]at this
theorem Ztr {L:Array Bool}{i:Nat}(h:L.getD i false=true):i<L.size:=by
 rcases Qay i L.size with h'|h'
 ·exact h'
 ·rw[Q9,Array.getElem?_eq_none h']at h;cases h
theorem Zuj {L:Array Bool}{i:Nat}(h:L.getD i false=true):L.getD i true=true:=by
 have:=Ztr h;rw[Q9,Qbt this]at h |-;exact h
theorem Znl {L:Array Bool}(hc:Zi4 ops L):∀(n j i:Nat),(∀k,direct ops j k=true->L.getD k false=true)->reach ops n j i=true->L.getD i false=true:=by
 intro n
 induction n with
 | zero=>intro j i _ h;simp[reach]at h
 | succ n ih=>
  intro j i hj h;simp only[reach,Qbl]at h;rcases h with h|h
  ·exact hj i h
  ·cases ho:ops.toList[j]? with
   | none=>rw[ho]at h;cases h
   | some o=>
    rw[ho]at h;obtain ⟨e,he,hb⟩:=Qbc.1 h;simp only[Qad]at hb;have hdir:direct ops j e.on=true:=by
     unfold direct;rw[ho];exact Qbc.2 ⟨e,he,by simp[hb.1]⟩
    have hk:=hj _ hdir;refine ih e.on i (λ k hk'=>?_) hb.2;rcases Qay e.on ops.size with hlt|hge
    ·exact hc _ _ hk hlt hk'
    ·unfold direct at hk';rw[Qx (by simpa using hge)]at hk';cases hk'
theorem Zj6 {L:Array Bool}(hc:Zi4 ops L){j i n:Nat}(hj:j∈Region.ready .any ops L)(hi:L.getD i true=false):reach ops n j i=false:=by
 cases h:reach ops n j i with
 | false=>rfl
 | true=>
  have:=Zuj (Znl hc n j i (λ k hk=>Ziu hj hk) h);rw[this]at hi;cases hi
theorem Zgs {L:Array Bool}{j:Nat}(hj:j∈Region.ready .any ops L):L.getD j true=false:=(mem_ready.1 hj).1
theorem Zi4.set {L:Array Bool}(hc:Zi4 ops L){i:Nat}(hi:i∈Region.ready .any ops L):Zi4 ops (L.setIfInBounds i true):=by
 intro j k hj hlt hd;by_cases hij:i=j
 ·subst hij;exact getD_set_true (Ziu hi hd)
 ·rw[getD_set_ne false hij]at hj;exact getD_set_true (hc j k hj hlt hd)
theorem Zko (n:Nat):Zi4 ops (Array.replicate n false):=λ j i h _ _=>by
 have:=Ztr h;simp at this;simp[this]at h
abbrev Zgk:=List (Nat×(World->Prop))
def drop (ops:Array Oper)(i:Nat)(Γ:Zgk):Zgk:=Γ.filter λ γ=> !reach ops ops.size i γ.1
theorem Zcl {i:Nat}{Γ:Zgk}{γ:Nat×(World->Prop)}:γ∈drop ops i Γ↔γ∈Γ/\reach ops ops.size i γ.1=false:=by
 simp[drop,Qz]
def W (P:Program)(ops:Array Oper)(Q:Exit->Act->World->Prop):Nat->Array Bool->Zgk->Act->World->Prop
 | 0,L,_,a,w=>Region.ready .any ops L=[]/\Q .normal a w
 | n+1,L,Γ,a,w=>
  (Region.ready .any ops L=[]->Q .normal a w) /\
  ∀i∈Region.ready .any ops L,wpOp P ops Q i (λ a' w'=>(∀γ∈drop ops i Γ,γ.2 w')/\W P ops Q n (L.setIfInBounds i true) (drop ops i Γ) a' w') a w
theorem Zii {Q:Exit->Act->World->Prop}:∀(n:Nat) (L:Array Bool) (Γ:Zgk) (a:Act) (w:World),W P ops Q n L Γ a w->wpAny P .any ops Q n L a w
 | 0,_,_,_,_,h=>h
 | n+1,_,_,_,_,h=>⟨h.1,λ i hi=>wpOp_mono (λ a' w' h'=>Zii n _ _ a' w' h'.2) (h.2 i hi)⟩
theorem Zuq {Q:Exit->Act->World->Prop}:∀(n:Nat) (L:Array Bool) (Γ Γ':Zgk) (a:Act) (w:World),(∀γ∈Γ',γ∈Γ)->W P ops Q n L Γ a w->W P ops Q n L Γ' a w
 | 0,_,_,_,_,_,_,h=>h
 | n+1,_,_,_,_,_,hs,h=>⟨h.1,λ i hi=>wpOp_mono (λ a' w' h'=>
   have hs':∀γ∈drop ops i _,γ∈drop ops i _:=λ _ hγ=>Zcl.2 ⟨hs _ (Zcl.1 hγ).1,(Zcl.1 hγ).2⟩
   ⟨λ _ hγ=>h'.1 _ (hs' _ hγ),Zuq n _ _ _ a' w' hs' h'.2⟩) (h.2 i hi)⟩
theorem Zv3 {Q:Exit->Act->World->Prop}(i:Nat):∀(n:Nat) (L:Array Bool) (Γ Γ':Zgk) (a:Act) (w:World),(∀γ∈Γ',γ∈Γ\/γ=(i,λ _=>True))->W P ops Q n L Γ a w->W P ops Q n L Γ' a w
 | 0,_,_,_,_,_,_,h=>h
 | n+1,_,_,_,_,_,hs,h=>⟨h.1,λ j hj=>wpOp_mono (λ a' w' h'=>
   have hs':∀γ∈drop ops j _,γ∈drop ops j _\/γ=(i,λ _=>True):=λ γ hγ=>by
    rcases hs _ (Zcl.1 hγ).1 with h1|h1
    ·exact .inl (Zcl.2 ⟨h1,(Zcl.1 hγ).2⟩)
    ·exact .inr h1
   ⟨λ γ hγ=>by
    rcases hs' γ hγ with h1|h1
    ·exact h'.1 γ h1
    ·rw[h1];trivial,Zv3 i n _ _ _ a' w' hs' h'.2⟩) (h.2 j hj)⟩
def Zkk (P:Program)(ops:Array Oper)(o:Oper)(v:Value)(a:Act)(w:World):Prop :=
 (Region.wanted o (yielded ops a.tmps)=true/\(execOp a.eval o).run P w = .ok (.value v) w)\/(Region.wanted o (yielded ops a.tmps)=false/\v=undef)
theorem Zkk.wpOp {Q:Exit->Act->World->Prop}{i:Nat}{o:Oper}{v:Value}{a:Act}{w:World}(hi:ops[i]?=some o)(hy:Zkk P ops o v a w){K:Act->World->Prop}(h:K (a.put o.dst v) w) :
  wpOp P ops Q i K a w:=by
 unfold Go.wpOp;simp only[hi];rcases hy with ⟨hw,hr⟩|⟨hw,rfl⟩
 ·rw[if_pos hw];left;unfold Oper.wp;rw[hr];exact h
 ·rw[if_neg (by rw[hw];simp)];exact h
def Zwt (ops:Array Oper):Bool :=
 (List.range ops.size).all λ i=>(List.range ops.size).all λ j=>
  Nat.beq i j || reach ops ops.size i j || reach ops ops.size j i || (match ops.toList[i]?,ops.toList[j]? with
   | some x,some y=>x.apart ops y
   | _,_=>true)
theorem Zpt (h:Zwt ops=true){i j:Nat}{x y:Oper}(hi:ops[i]?=some x)(hj:ops[j]?=some y)(hne:i≠j)(h1:reach ops ops.size i j=false)(h2:reach ops ops.size j i=false):x.apart ops y=true:=by
 have hli:i<ops.size:=(Qw.1 hi).1;have hlj:j<ops.size:=(Qw.1 hj).1;have h3:=Qar.1 (Qar.1 h i (Qbg.2 hli)) j (Qbg.2 hlj);rw[h1,h2,Qbj,Qbj,hi,hj]at h3;simp only[Qdc,Qbl]at h3;rcases h3 with h3|h3
 ·exact absurd (Qa1 h3) hne
 ·exact h3
theorem wpOp_put {Q:Exit->Act->World->Prop}{j:Nat}{oi oj:Oper}{v:Value}(hj:ops[j]?=some oj)(hap:oi.apart ops oj=true)
  (hsj:∀cs b,oj.op ≠ .select cs b) (hQ:∀ch a a' w,a'.defers=a.defers->Q (.panic ch) a w->Q (.panic ch) a' w) {K K':Act->World->Prop} {a:Act} {w:World}
  (hK:∀ds u w',K ((({a with defers:=ds }:Act).put oj.dst u).put oi.dst v) w'->K' (({a with defers:=ds }:Act).put oj.dst u) w')
  (h:wpOp P ops Q j K (a.put oi.dst v) w):wpOp P ops Q j K' a w:=by
 obtain ⟨h1,h2,h3⟩:=Oper.apart_spec hap;unfold wpOp at *;simp only[hj]at *;rw[wanted_put oj a oi.dst v h1]at h;have hx:execOp (a.put oi.dst v).eval oj=execOp a.eval oj:=execOp_put oj hsj a oi.dst v h1;split
 ·rename_i hw;rw[if_pos hw]at h;rcases h with h|⟨⟨h,h'⟩,h''⟩
  ·left;unfold Oper.wp at *;rw[hx]at h;have hp:∀u w',K ((a.put oi.dst v).put oj.dst u) w'->K' (a.put oj.dst u) w':=λ u w' hk=>hK a.defers u w' (by rw[<-Act.put_comm a v u h2];exact hk);have hds:a.defers=(a.put oi.dst v).defers:=by unfold Act.put;cases oi.dst<;>rfl
   have hp':∀d u w',K (({a.put oi.dst v with defers:=d::(a.put oi.dst v).defers }:Act).put oj.dst u) w'->K' (({a with defers:=d::a.defers }:Act).put oj.dst u) w':=λ d u w' hk=>by
    have hc:=Act.put_comm ({a with defers:=d::a.defers }:Act) v u h2;refine hK (d::a.defers) u w' ?_;rw[<-hc];have he:({a.put oi.dst v with defers:=d::(a.put oi.dst v).defers }:Act)=({a with defers:=d::a.defers }:Act).put oi.dst v:=by
     unfold Act.put;cases oi.dst<;>rfl
    rw[<-he];exact hk
   generalize (execOp a.eval oj).run P w=r at *
   cases r with
   | ok n w'=>
    cases n<;>simp only[Oper.upon]at h |-<;>first
     | exact hp _ _ h
     | exact hp' _ _ _ h
     | (refine Calls.mono h λ e w'' he=>?_
        cases e with
        | returned u=>exact hp _ _ he
        | panicked ch=>exact hQ _ _ _ _ hds he
        | outgrown=>exact he)
     | (exact Rows.mono h λ _ _ he=>hp _ _ he)
   | halt x w'=>cases x<;>simp only[Oper.upon]at h |-<;>first | exact hQ _ _ _ _ hds h | exact h
  ·right;refine ⟨⟨?_,?_⟩,h''⟩
   ·rw[hx]at h;exact h
   ·rw[hx]at h';exact h'
 ·rename_i hw;rw[if_neg hw]at h;exact hK a.defers _ _ (by rw[<-Act.put_comm a v undef h2];exact h)
theorem Zpm {Q:Exit->Act->World->Prop}(hQ:∀ch a a' w,a'.defers=a.defers->Q (.panic ch) a w->Q (.panic ch) a' w)(hsel:∀(j:Nat) (o:Oper) cs b,ops[j]?=some o->o.op ≠ .select cs b)(hap:Zwt ops=true)
  {i:Nat} {oi:Oper} {v:Value} {F:World->Prop} (hi:ops[i]?=some oi) :
  ∀(n:Nat) (L:Array Bool) (Γ:Zgk) (a:Act) (w:World),Zi4 ops L->i∈Region.ready .any ops L->(∀w',F w'->Zkk P ops oi v a w')->F w->(∀γ∈Γ,γ.2 w) ->
   W P ops Q n (L.setIfInBounds i true) ((i,F)::Γ) (a.put oi.dst v) w->W P ops Q (n+1) L Γ a w:=by
 intro n
 induction n with
 | zero=>
  intro L Γ a w _ hr hF hFw hΓ H;refine ⟨λ h=>(by rw[h]at hr;cases hr),λ j hj=>?_⟩;by_cases hji:j=i
  ·subst hji;exact (hF w hFw).wpOp hi ⟨λ γ hγ=>hΓ γ (Zcl.1 hγ).1,H⟩
  ·have:=ready_mono hj hji;rw[H.1]at this;cases this
 | succ n ih=>
  intro L Γ a w hc hr hF hFw hΓ H;refine ⟨λ h=>(by rw[h]at hr;cases hr),λ j hj=>?_⟩;by_cases hji:j=i
  ·subst hji;refine (hF w hFw).wpOp hi ⟨λ γ hγ=>hΓ γ (Zcl.1 hγ).1,?_⟩;exact Zuq _ _ _ _ _ _ (λ γ hγ=>Qcf _ (Zcl.1 hγ).1) H
  ·have h1:=H.2 j (ready_mono hj hji);obtain ⟨_,oj,hoj,_⟩:=mem_ready.1 hj;have r1:reach ops ops.size j i=false:=Zj6 hc hj (Zgs hr);have r2:reach ops ops.size i j=false:=Zj6 hc hr (Zgs hj);have hapij:=Zpt hap hi hoj (λ e=>hji e.symm) r2 r1;obtain ⟨_,_,h3⟩:=Oper.apart_spec hapij;refine wpOp_put hoj hapij (λ cs b=>hsel j oj cs b hoj) hQ (λ ds u w' hk=>?_) h1;obtain ⟨hfacts,hW⟩:=hk;have hFw':F w':=hfacts (i,F) (Zcl.2 ⟨by simp,r1⟩);refine ⟨λ γ hγ=>hfacts γ (Zcl.2 ⟨Qcf _ (Zcl.1 hγ).1,(Zcl.1 hγ).2⟩),?_⟩;refine ih (L.setIfInBounds j true) (drop ops j Γ) _ w' (hc.set hj) (ready_mono hr (Ne.symm hji)) (λ w'' hw''=>?_) hFw' (λ γ hγ=>hfacts γ (Zcl.2 ⟨Qcf _ (Zcl.1 hγ).1,(Zcl.1 hγ).2⟩)) ?_
   ·have hy:Zkk P ops oi v ({a with defers:=ds }:Act) w'':=hF w'' hw'';unfold Zkk at hy |-;rw[wanted_put oi _ oj.dst u h3,execOp_put oi (λ cs b=>hsel i oi cs b hi) _ oj.dst u h3];exact hy
   ·rw[Array.setIfInBounds_comm _ _ hji];refine Zuq _ _ _ _ _ _ (λ γ hγ=>?_) hW;rcases Qaa.1 hγ with rfl|hγ
    ·exact Zcl.2 ⟨by simp,r1⟩
    ·exact Zcl.2 ⟨Qcf _ (Zcl.1 hγ).1,(Zcl.1 hγ).2⟩
def PUR (P:Program)(s:Sem Value)(K:Value->Prop)(_k:Tok K:=tok K):Prop:=∃v,(∀w,s.run P w = .ok v w)/\K v
def LD (P:Program)(s:Sem Value)(w:World)(K:Value->Prop)(_k:Tok K:=tok K):Prop:=∃v,s.run P w = .ok v w/\K v
def ZZ148 (ops:Array Oper)(i:Nat):Bool :=
 match ops.toList[i]? with
 | some o=>match rkind o.op with | .eff=>false | _=>true
 | none=>false
def Zl4 (P:Program)(op:Op)(ty:TypeId)(e:Operand->Value)(w:World)(next:Value->Option (World->Prop)->Prop):Prop :=
 match op with
 | .move x=>next (e x) none
 | .assign x=>next (e x) none
 | .pick c a b=>PICK (e c) (e a) (e b) λ v=>next v none
 | .nilCheck x=>NILC (e x) λ v=>next v none
 | op=>
  match Zr1 op ty e with
  | some s=>
   match rkind op with
   | .pure=>PUR P s λ v=>next v none
   | .load=>LD P s w λ v=>next v (some λ w'=>s.run P w' = .ok v w')
   | .eff=>False
  | none=>False
def addF (i:Nat)(f:Option (World->Prop))(Γ:Zgk):Zgk :=
 match f with
 | none=>Γ
 | some F=>(i,F)::Γ
def Zn1:Zgk->World->Prop->Prop
 | [],_,B=>B
 | γ::Γ,w,B=>γ.2 w/\Zn1 Γ w B
def ALLC:List Nat->(Nat->Prop)->Prop
 | [],_=>True
 | [i],f=>f i
 | i::l,f=>f i/\ALLC l f
def Zd1 (P:Program)(X:Pan)(ops:Array Oper):Nat->Array Bool->Zgk->Env->World->(Env->World->Prop)->Prop
 | 0,L,_,ρ,w,K=>match Region.ready .any ops L with | []=>K ρ w | _=>False
 | n+1,L,Γ,ρ,w,K=>
  match (Region.ready .any ops L).find? (ZZ148 ops) with
  | some i=>
   match ops.toList[i]? with
   | none=>False
   | some o=>
    let run:Prop:=Zl4 P o.op o.type (ev ρ) w λ v f=>
     match Zen ops i with
     | true=>Zef v λ b=>Zd1 P X ops n (L.setIfInBounds i true) (addF i f Γ) (upd ρ o.dst (.bool b)) w K
     | false=>Zd1 P X ops n (L.setIfInBounds i true) (addF i f Γ) (upd ρ o.dst v) w K
    match o.guard with
    | none=>run
    | some (j,want)=>GOK (gval ops ρ j) want run (Zd1 P X ops n (L.setIfInBounds i true) Γ (upd ρ o.dst undef) w K)
  | none=>
   match Region.ready .any ops L with
   | []=>K ρ w
   | l=>ALLC l λ i=>
    match ops.toList[i]? with
    | none=>False
    | some o=>
     let run:Prop:=opP P X o.op o.type (ev ρ) w λ v w'=>
      Zn1 (drop ops i Γ) w' (match Zen ops i with
       | true=>Zef v λ b=>Zd1 P X ops n (L.setIfInBounds i true) (drop ops i Γ) (upd ρ o.dst (.bool b)) w' K
       | false=>Zd1 P X ops n (L.setIfInBounds i true) (drop ops i Γ) (upd ρ o.dst v) w' K)
     match o.guard with
     | none=>run
     | some (j,want)=>GOK (gval ops ρ j) want run (Zd1 P X ops n (L.setIfInBounds i true) (drop ops i Γ) (upd ρ o.dst undef) w K)
theorem Zle:∀{Γ:Zgk} {w:World} {B:Prop},Zn1 Γ w B->(∀γ∈Γ,γ.2 w)/\B
 | [],_,_,h=>⟨(λ γ hγ=>by cases hγ),h⟩
 | γ::Γ,w,B,h=>by
  obtain ⟨h1,h2⟩:=h
  obtain ⟨h3,h4⟩:=Zle h2
  exact ⟨λ δ hδ=>by
   rcases Qaa.1 hδ with rfl|hδ
   ·exact h1
   ·exact h3 _ hδ,h4⟩
theorem Znz:∀{l:List Nat} {f:Nat->Prop},ALLC l f->∀i∈l,f i
 | [],_,_,i,hi=>by cases hi
 | [j],f,h,i,hi=>by
  rcases Qaa.1 hi with rfl|hi
  ·exact h
  ·cases hi
 | j::k::l,f,h,i,hi=>by
  obtain ⟨h1,h2⟩:=h
  rcases Qaa.1 hi with rfl|hi
  ·exact h1
  ·exact Znz h2 i hi
theorem Zhn {P:Program}{s:Sem Value}{w:World}{v:Value}(h:s.run P w = .ok v w):(do pure (.value (<-s)):Sem Next).run P w = .ok (.value v) w:=by
 simp only[Sem.run_bind,h,Result.andThen_ok,Sem.run_pure]
theorem Zsy {o:Oper}{e:Operand->Value}{w:World}{next:Value->Option (World->Prop)->Prop}(h:Zl4 P o.op o.type e w next) :
  ∃v f,next v f/\(∀F,f=some F->F w)/\∀w',(∀F,f=some F->F w')->(execOp e o).run P w' = .ok (.value v) w':=by
 obtain ⟨dst,op,ty,pos,after,guard⟩:=o;have key:∀(s:Sem Value) (k:RK),Zr1 op ty e=some s->(match k with
    | .pure=>PUR P s λ v=>next v none
    | .load=>LD P s w λ v=>next v (some λ w'=>s.run P w' = .ok v w')
    | .eff=>False)->(∀v w',s.run P w' = .ok v w'->(execOp e ⟨dst,op,ty,pos,after,guard⟩).run P w' = .ok (.value v) w') ->
   ∃v f,next v f/\(∀F,f=some F->F w)/\∀w',(∀F,f=some F->F w')->(execOp e ⟨dst,op,ty,pos,after,guard⟩).run P w' = .ok (.value v) w':=by
  intro s k _ hk hs
  cases k with
  | pure=>
   obtain ⟨v,hv,hn⟩:=hk;exact ⟨v,none,hn,(λ F hF=>by cases hF),λ w' _=>hs v w' (hv w')⟩
  | load=>
   obtain ⟨v,hv,hn⟩:=hk;exact ⟨v,_,hn,(λ F hF=>by cases hF;exact hv),λ w' hF=>hs v w' (hF _ rfl)⟩
  | eff=>exact hk.elim
 cases op with
 | move x=>exact ⟨_,none,h,(λ F hF=>by cases hF),λ w' _=>rfl⟩
 | assign x=>exact ⟨_,none,h,(λ F hF=>by cases hF),λ w' _=>rfl⟩
 | pick c a b=>
  simp only[Zl4,PICK]at h;split at h
  ·rename_i t ht;refine ⟨_,none,h,(λ F hF=>by cases hF),λ w' _=>?_⟩;simp only[execOp,ht,asBool,Sem.run_bind,Sem.run_pure,Result.andThen_ok];cases t<;>rfl
  ·exact h.elim
 | nilCheck x=>
  simp only[Zl4,NILC]at h;split at h
  ·exact h.elim
  ·exact h.elim
  ·exact h.elim
  ·exact h.elim
  ·rename_i h1 h2 h3 h4;refine ⟨_,none,h,(λ F hF=>by cases hF),λ w' _=>?_⟩;unfold execOp;simp only[Sem.run_pure]
 | call c=>
  obtain ⟨callee,args,argTypes⟩:=c
  cases callee with
  | value f=>exact h.elim
  | invoke r m=>exact h.elim
  | builtin b=>
   cases b<;>first
    | exact h.elim
    | (refine key _ .load rfl h λ v w' hr=>?_
       simp only[execOp,resolve,invoke,builtin,Sem.run_bind,Sem.run_pure,Result.andThen_ok,Zgd,hr])
 | build t ps=>exact key _ .pure rfl h λ v w' hr=>by simp only[execOp,Zg6];exact Zhn hr
 | makeFunc fn fs cs=>exact key _ .pure rfl h λ v w' hr=>by simp only[execOp,Zgd];exact Zhn hr
 | _=>first
  | exact h.elim
  | exact key _ .pure rfl h λ v w' hr=>Zhn hr
  | exact key _ .load rfl h λ v w' hr=>Zhn hr
def Zx4 (N:Nat)(ops:Array Oper):Bool:=Zlj N ops && Region.noSelect ops && Zwt ops
theorem Zj3 {P:Program}{ops:Array Oper}{X:Pan}{N:Nat}{D:List Deferred}{Q:Exit->Act->World->Prop}(hX:∀ch a w,a.defers=D->X ch w->Q (.panic ch) a w)(hQ:∀ch a a' w,a'.defers=a.defers->Q (.panic ch) a w->Q (.panic ch) a' w)
  (hok:Zx4 N ops=true) {K:Env->World->Prop} (hK:∀a ρ w,Rel N a ρ D->K ρ w->Q .normal a w) :
  ∀(n:Nat) (L:Array Bool) (Γ:Zgk) (ρ:Env) (a:Act) (w:World),Zi4 ops L->(∀γ∈Γ,γ.2 w)->Rel N a ρ D->Zd1 P X ops n L Γ ρ w K->W P ops Q n L Γ a w:=by
 simp only[Zx4,Qad]at hok;obtain ⟨⟨hd,hns⟩,hap⟩:=hok;have hsel:∀(j:Nat) (o:Oper) cs b,ops[j]?=some o->o.op ≠ .select cs b:=λ j o cs b ho=>Region.noSelect_spec hns j o cs b ho;intro n
 induction n with
 | zero=>
  intro L Γ ρ a w _ _ hr h;unfold Zd1 at h;split at h
  ·rename_i h0;exact ⟨h0,hK _ _ _ hr h⟩
  ·exact h.elim
 | succ n ih=>
  intro L Γ ρ a w hc hΓ hr h;unfold Zd1 at h;have dst_in:∀{i:Nat} {o:Oper},ops.toList[i]?=some o->Zng N o.dst=true:=λ ho=>Qar.1 hd _ (Qe ho);split at h
  ·rename_i i hfind;have hi:i∈Region.ready .any ops L:=Qcu hfind;split at h
   ·exact h.elim
   ·rename_i o ho;have ho':ops[i]?=some o:=by rw[<-Qbj];exact ho
    have skip:Region.wanted o (yielded ops a.tmps)=false->Zd1 P X ops n (L.setIfInBounds i true) Γ (upd ρ o.dst undef) w K->W P ops Q (n+1) L Γ a w:=λ hw hh=>by
     refine Zpm hQ hsel hap (F:=λ _=>True) (v:=undef) ho' n L Γ a w hc hi (λ _ _=> .inr ⟨hw,rfl⟩) trivial hΓ ?_;exact Zv3 i n _ Γ _ _ _ (λ γ hγ=>by
      rcases Qaa.1 hγ with rfl|hγ
      ·exact .inr rfl
      ·exact .inl hγ) (ih _ _ _ _ _ (hc.set hi) hΓ (hr.put (dst_in ho) _) hh)
    have run:Region.wanted o (yielded ops a.tmps)=true->(Zl4 P o.op o.type (ev ρ) w λ v f=>
      match Zen ops i with
      | true=>Zef v λ b=>Zd1 P X ops n (L.setIfInBounds i true) (addF i f Γ) (upd ρ o.dst (.bool b)) w K
      | false=>Zd1 P X ops n (L.setIfInBounds i true) (addF i f Γ) (upd ρ o.dst v) w K)->W P ops Q (n+1) L Γ a w:=λ hw hh=>by
     obtain ⟨v,f,hn,hf,hy⟩:=Zsy (o:=o) hh;have hn':Zd1 P X ops n (L.setIfInBounds i true) (addF i f Γ) (upd ρ o.dst v) w K:=by
      split at hn
      ·obtain ⟨b,rfl,hb⟩:=Zd5 hn;exact hb
      ·exact hn
     cases f with
     | none=>
      refine Zpm hQ hsel hap (F:=λ _=>True) (v:=v) ho' n L Γ a w hc hi (λ w' _=> .inl ⟨hw,by rw[hr.eval];exact hy w' (λ F hF=>by cases hF)⟩) trivial hΓ ?_;exact Zv3 i n _ Γ _ _ _ (λ γ hγ=>by
       rcases Qaa.1 hγ with rfl|hγ
       ·exact .inr rfl
       ·exact .inl hγ) (ih _ _ _ _ _ (hc.set hi) hΓ (hr.put (dst_in ho) _) hn')
     | some F=>
      have hFw:F w:=hf F rfl;refine Zpm hQ hsel hap (F:=F) (v:=v) ho' n L Γ a w hc hi (λ w' hF=> .inl ⟨hw,by rw[hr.eval];exact hy w' (λ F' hF'=>by cases hF';exact hF)⟩) hFw hΓ ?_;refine ih _ _ _ _ _ (hc.set hi) (λ γ hγ=>?_) (hr.put (dst_in ho) _) hn';rcases Qaa.1 hγ with rfl|hγ
      ·exact hFw
      ·exact hΓ _ hγ
    cases hg:o.guard with
    | none=>rw[hg]at h;exact run (Zhc hg _) h
    | some g=>
     obtain ⟨j,want⟩:=g;rw[hg]at h;rcases Zg1 hr hd hg h with ⟨hw,hA⟩|⟨hw,hB⟩
     ·exact run hw hA
     ·exact skip hw hB
  ·refine ⟨λ h0=>?_,λ i hi=>?_⟩
   ·rw[h0]at h;exact hK _ _ _ hr h
   ·split at h
    ·rename_i h0;rw[h0]at hi;cases hi
    ·have h:=Znz h i hi;split at h
     ·exact h.elim
     ·rename_i o ho;have ho':ops[i]?=some o:=by rw[<-Qbj];exact ho
      unfold wpOp;simp only[ho'];have run:(opP P X o.op o.type (ev ρ) w λ v w'=>
       Zn1 (drop ops i Γ) w' (match Zen ops i with
        | true=>Zef v λ b=>Zd1 P X ops n (L.setIfInBounds i true) (drop ops i Γ) (upd ρ o.dst (.bool b)) w' K
        | false=>Zd1 P X ops n (L.setIfInBounds i true) (drop ops i Γ) (upd ρ o.dst v) w' K)) ->
        o.wp P a w (λ a' w'=>(∀γ∈drop ops i Γ,γ.2 w')/\W P ops Q n (L.setIfInBounds i true) (drop ops i Γ) a' w') Q:=λ hh=>by
       unfold Oper.wp;rw[hr.eval];refine Zj2 hh (λ ch w' hx=>hX _ _ _ hr.defers hx) λ v w' hv=>?_;obtain ⟨hfs,hv⟩:=Zle hv;refine ⟨hfs,?_⟩;split at hv
       ·obtain ⟨b,rfl,hb⟩:=Zd5 hv;exact ih _ _ _ _ _ (hc.set hi) hfs (hr.put (dst_in ho) _) hb
       ·exact ih _ _ _ _ _ (hc.set hi) hfs (hr.put (dst_in ho) _) hv
      cases hg:o.guard with
      | none=>
       rw[hg]at h;rw[if_pos (Zhc hg _)];exact .inl (run h)
      | some g=>
       obtain ⟨j,want⟩:=g;rw[hg]at h;rcases Zg1 hr hd hg h with ⟨hw,hA⟩|⟨hw,hB⟩
       ·rw[if_pos hw];exact .inl (run hA)
       ·rw[if_neg (by rw[hw];simp)];have hfs:∀γ∈drop ops i Γ,γ.2 w:=λ γ hγ=>hΓ γ (Zcl.1 hγ).1;exact ⟨hfs,ih _ _ _ _ _ (hc.set hi) hfs (hr.put (dst_in ho) _) hB⟩
end
theorem Zvl {P:Program}{s:Sem Value}{w:World}{K:Value->Prop}(h:LD P s w K):∃v,s.run P w = .ok v w/\K v:=h
theorem Zye {P:Program}{s:Sem Value}{w:World}{K:Value->Prop}(v:Value)(h:s.run P w = .ok v w)(k:K v):LD P s w K:=⟨v,h,k⟩
theorem Zym {P:Program}{s:Sem Value}{K:Value->Prop}(h:PUR P s K):∃v,(∀w,s.run P w = .ok v w)/\K v:=h
theorem Zwy {P:Program}{s:Sem Value}{K:Value->Prop}(v:Value)(h:∀w,s.run P w = .ok v w)(k:K v):PUR P s K:=⟨v,h,k⟩
attribute [irreducible] LD PUR
def Zpw (N:Env->World->Prop)(Q:Exit->Env->World->Prop):Exit->Env->World->Prop
 | .normal=>N
 | e=>Q e
def Zlr (id:Nat)(Q:Exit->Env->World->Prop):Exit->Env->World->Prop
 | .exit k=>cond (Nat.beq k id) (Q .normal) (Q (.exit k))
 | e=>Q e
def ZZ83 (l:Nat)(N:Env->World->Prop)(Q:Exit->Env->World->Prop):Exit->Env->World->Prop
 | .goto k=>cond (Nat.beq k l) N (λ _ _=>False)
 | e=>Q e
def ngE (Q:Exit->Env->World->Prop):Exit->Env->World->Prop
 | .goto _=>λ _ _=>False
 | e=>Q e
def Zbp (P:Program)(X:Pan):Code->(Exit->Env->World->Prop)->Env->World->Prop
 | .skip,Q,ρ,w=>Q .normal ρ w
 | .label _,Q,ρ,w=>Q .normal ρ w
 | .region _ ops false,Q,ρ,w=>opsP P X ops 0 ops.toList ρ w (Q .normal)
 | .region _ ops true,Q,ρ,w=>Zd1 P X ops ops.size (Array.replicate ops.size false) [] ρ w.drew (Q .normal)
 | .seq a b,Q,ρ,w=>Zbp P X a (Zpw (Zbp P X b Q) Q) ρ w
 | .cond c x y,Q,ρ,w=>Zef (ev ρ c) λ b=>cond b (Zbp P X x Q ρ w) (Zbp P X y Q ρ w)
 | .block id b,Q,ρ,w=>Zbp P X b (Zlr id Q) ρ w
 | .loop b,Q,ρ,w=>∃(I:Env->World->Prop) (μ:Env->World->Nat),I ρ w/\∀ρ' w',I ρ' w'->Zbp P X b (Zpw (λ ρ'' w''=>I ρ'' w''/\μ ρ'' w''<μ ρ' w') Q) ρ' w'
 | .exit id,Q,ρ,w=>Q (.exit id) ρ w
 | .ret,Q,ρ,w=>Q .ret ρ w
 | .goto l,Q,ρ,w=>Q (.goto l) ρ w
 | .scope (.seq (.label l) b),Q,ρ,w=>∃(I:Env->World->Prop) (μ:Env->World->Nat),I ρ w/\∀ρ' w',I ρ' w'->Zbp P X b (ZZ83 l (λ ρ'' w''=>I ρ'' w''/\μ ρ'' w''<μ ρ' w') Q) ρ' w'
 | .scope (.seq (.region _ ops false) b),Q,ρ,w=>opsP P X ops 0 ops.toList ρ w (Zbp P X b (ngE Q))
 | .scope (.seq (.region _ ops true) b),Q,ρ,w=>Zd1 P X ops ops.size (Array.replicate ops.size false) [] ρ w.drew (Zbp P X b (ngE Q))
 | .scope (.seq (.seq x y) b),Q,ρ,w=>Zbp P X x (Zpw (Zbp P X y (Zpw (Zbp P X b (ngE Q)) (ngE Q))) (Zpw (Zbp P X b (ngE Q)) (ngE Q))) ρ w
 | _,_,_,_=>False
def codeOk (N:Nat):Code->Bool
 | .region _ ops false=>Zlj N ops
 | .region _ ops true=>Zx4 N ops
 | .seq a b=>codeOk N a && codeOk N b
 | .cond _ x y=>codeOk N x && codeOk N y
 | .block _ b=>codeOk N b
 | .loop b=>codeOk N b
 | .scope (.seq (.label _) b)=>codeOk N b
 | .scope (.seq (.region _ ops false) b)=>Zlj N ops && codeOk N b
 | .scope (.seq (.region _ ops true) b)=>Zx4 N ops && codeOk N b
 | .scope (.seq (.seq x y) b)=>(codeOk N x && codeOk N y) && codeOk N b
 | _=>true
def post (X:Pan)(N:Nat)(Q:Exit->Env->World->Prop)(D:List Deferred:=[]):Exit->Act->World->Prop
 | .panic ch,a,w=>a.defers=D/\X ch w
 | e,a,w=>∃ρ,Rel N a ρ D/\Q e ρ w
theorem Zk7 {P:Program}{l:Nat}{c:Code}{Q:Exit->Act->World->Prop}{a:Act}{w:World}(I:Act->World->Prop)(μ:Act->World->Nat)(h0:I a w)
  (round:∀a w,I a w->c.wp P (fun | .goto k,a',w'=>k=l/\I a' w'/\μ a' w'<μ a w | e,a',w'=>Q e a' w') a w):(Code.scope (.seq (.label l) c)).wp P Q a w:=by
 intro b k cs;have key:∀n a w,μ a w=n->I a w->∃e a' w',Q e a' w'/\(∀l,e ≠ .goto l)/\Arrives P (lone (b.at a (.code c :: .inScope (.seq (.label l) c)::k)) cs w) b (.inScope (.seq (.label l) c)::k) cs e a' w':=by
  intro n
  induction n using Nat.strongRecOn with
  | _ n ih=>
   intro a w hn hI;obtain ⟨e,a₁,w₁,hq,harr⟩:=round a w hI b (.inScope (.seq (.label l) c)::k) cs
   cases e with
   | goto k'=>
    obtain ⟨rfl,hI₁,hlt⟩:=hq;obtain ⟨e₂,a₂,w₂,hq₂,hne,harr₂⟩:=ih (μ a₁ w₁) (hn ▸ hlt) a₁ w₁ rfl hI₁;have hs:=harr (.code (.seq .skip c) :: .inScope (.seq (.label k') c)::k) (by simp[gotoIn,findLabel]);exact ⟨e₂,a₂,w₂,hq₂,hne,.of_steps (hs.trans (.head step_seq (.one step_skip))) harr₂⟩
   | normal=>exact ⟨_,a₁,w₁,hq,by simp,harr⟩
   | exit id=>exact ⟨_,a₁,w₁,hq,by simp,harr⟩
   | ret=>exact ⟨_,a₁,w₁,hq,by simp,harr⟩
   | panic ch=>exact ⟨_,a₁,w₁,hq,by simp,harr⟩
   | outgrown=>exact ⟨_,a₁,w₁,hq,by simp,harr⟩
 obtain ⟨e,a',w',hq,hne,harr⟩:=key _ a w rfl h0;have hin:Steps P (lone (b.at a (.code (.scope (.seq (.label l) c))::k)) cs w) (lone (b.at a (.code c :: .inScope (.seq (.label l) c)::k)) cs w) :=
  .head step_scope (.head step_seq (.one step_label))
 cases e with
 | normal=>exact ⟨.normal,a',w',hq,hin.trans (Steps.trans harr (.one step_inScope))⟩
 | exit id=>exact ⟨.exit id,a',w',hq,λ k' hk=>hin.trans (harr k' (by simp[exitTo,hk]))⟩
 | goto l=>exact absurd rfl (hne l)
 | ret=>exact ⟨_,a',w',hq,.of_steps hin harr⟩
 | panic ch=>exact ⟨_,a',w',hq,.of_steps hin harr⟩
 | outgrown=>exact ⟨_,a',w',hq,.of_steps hin harr⟩
theorem Zgr {P:Program}{c:Code}{Q:Exit->Act->World->Prop}{a:Act}{w:World}(h:c.wp P (fun | .goto _,_,_=>False | e,a',w'=>Q e a' w') a w):(Code.scope c).wp P Q a w:=by
 intro b k cs;obtain ⟨e,a',w',hq,harr⟩:=h b (.inScope c::k) cs;have hin:Steps P (lone (b.at a (.code (.scope c)::k)) cs w) (lone (b.at a (.code c :: .inScope c::k)) cs w) := .one step_scope
 cases e with
 | normal=>exact ⟨.normal,a',w',hq,hin.trans (Steps.trans harr (.one step_inScope))⟩
 | exit id=>exact ⟨.exit id,a',w',hq,λ k' hk=>hin.trans (harr k' (by simp[exitTo,hk]))⟩
 | goto l=>exact hq.elim
 | ret=>exact ⟨_,a',w',hq,.of_steps hin harr⟩
 | panic ch=>exact ⟨_,a',w',hq,.of_steps hin harr⟩
 | outgrown=>exact ⟨_,a',w',hq,.of_steps hin harr⟩
def Snd (P:Program)(X:Pan)(N:Nat)(D:List Deferred)(c:Code):Prop:=∀(Q:Exit->Env->World->Prop) (ρ:Env) (a:Act) (w:World),codeOk N c=true->Rel N a ρ D->Zbp P X c Q ρ w->c.wp P (post X N Q D) a w
theorem Zmx {P:Program}{X:Pan}{N:Nat}{D:List Deferred}(hm:P.follows .mixedOrders=true):∀(c:Code),Snd P X N D c/\∀l b,c = .seq (.label l) b->Snd P X N D b:=by
 intro c
 induction c with
 | skip=>
  refine ⟨?_,λ l b h=>by cases h⟩;intro Q ρ a w _ hr h;exact wp_skip ⟨ρ,hr,h⟩
 | label l=>
  refine ⟨?_,λ l b h=>by cases h⟩;intro Q ρ a w _ hr h;exact wp_label ⟨ρ,hr,h⟩
 | exit id=>
  refine ⟨?_,λ l b h=>by cases h⟩;intro Q ρ a w _ hr h;exact wp_exit ⟨ρ,hr,h⟩
 | ret=>
  refine ⟨?_,λ l b h=>by cases h⟩;intro Q ρ a w _ hr h;exact wp_ret ⟨ρ,hr,h⟩
 | region id ops d=>
  refine ⟨?_,λ l b h=>by cases h⟩;intro Q ρ a w hok hr h
  cases d with
  | false=>
   refine wpIn_wide.1 (wpIn_region_list (n:=0) ?_);exact Zll (Q:=post X N Q D) (λ _ _ _ hd hx=>⟨hd,hx⟩) hok (λ a ρ w hr hk=>⟨ρ,hr,hk⟩) _ _ _ _ _ (λ o ho=>Qar.1 hok o ho) hr h
  | true=>
   refine wp_region_any hm (Zii _ _ [] _ _ ?_);exact Zj3 (Q:=post X N Q D) (λ _ _ _ hd hx=>⟨hd,hx⟩) (λ _ _ _ _ hd hx=>⟨hd.trans hx.1,hx.2⟩) hok (λ a ρ w hr hk=>⟨ρ,hr,hk⟩) _ _ _ _ _ _ (Zko _) (λ γ hγ=>by cases hγ) hr h
 | seq x y ihx ihy=>
  refine ⟨?_,λ l b h=>by injection h with h1 h2;subst h2;exact ihy.1⟩;intro Q ρ a w hok hr h;simp only[codeOk,Qad]at hok;refine wp_seq (wp_mono (ihx.1 _ _ _ _ hok.1 hr h) λ e a' w' hq=>?_)
  cases e with
  | normal=>obtain ⟨ρ',hr',hq'⟩:=hq;exact ihy.1 _ _ _ _ hok.2 hr' hq'
  | panic ch=>exact hq
  | _=>exact hq
 | cond c x y ihx ihy=>
  refine ⟨?_,λ l b h=>by cases h⟩;intro Q ρ a w hok hr h;simp only[codeOk,Qad]at hok;obtain ⟨b,hb,hq⟩:=Zd5 h;refine wp_cond (t:=b) (by rw[hr.eval];exact hb) ?_
  cases b with
  | true=>exact ihx.1 _ _ _ _ hok.1 hr hq
  | false=>exact ihy.1 _ _ _ _ hok.2 hr hq
 | block id b ih=>
  refine ⟨?_,λ l b h=>by cases h⟩;intro Q ρ a w hok hr h;refine wp_block (wp_mono (ih.1 _ _ _ _ hok hr h) λ e a' w' hq=>?_)
  cases e with
  | exit k=>
   obtain ⟨ρ',hr',hq'⟩:=hq;simp only[Zlr]at hq';simp only[Exit.inBlock];by_cases hk:k=id
   ·subst hk;rw[if_pos rfl];have:Nat.beq k k=true:=by simp
    rw[this]at hq';exact ⟨ρ',hr',hq'⟩
   ·rw[if_neg hk];have:Nat.beq k id=false:=by
     cases hh:Nat.beq k id with
     | false=>rfl
     | true=>exact absurd (Qa1 hh) hk
    rw[this]at hq';exact ⟨ρ',hr',hq'⟩
  | panic ch=>exact hq
  | _=>exact hq
 | loop b ih=>
  refine ⟨?_,λ l b h=>by cases h⟩;intro Q ρ a w hok hr h;obtain ⟨I,μ,h0,hround⟩:=h;refine wp_loop (λ a' w'=>∃ρ',Rel N a' ρ' D/\I ρ' w') (λ a' w'=>μ (λ n=>a'.tmps.getD n undef) w') ⟨ρ,hr,h0⟩ ?_;rintro a' w' ⟨ρ',hr',hI⟩;have hρ:∀{a:Act} {ρ:Env},Rel N a ρ D->(λ n=>a.tmps.getD n undef)=ρ:=λ h=>funext h.get;refine wp_mono (ih.1 _ _ _ _ hok hr' (hround ρ' w' hI)) λ e a'' w'' hq=>?_
  cases e with
  | normal=>
   obtain ⟨ρ'',hr'',hI'',hlt⟩:=hq;exact ⟨⟨ρ'',hr'',hI''⟩,by rw[hρ hr'',hρ hr'];exact hlt⟩
  | panic ch=>exact hq
  | _=>exact hq
 | goto l=>exact ⟨λ Q ρ a w _ hr h=>wp_goto ⟨ρ,hr,h⟩,λ l b h=>by cases h⟩
 | scope body ih=>
  refine ⟨λ Q ρ a w hok hr h=>?_,λ l b h=>by cases h⟩
  cases body with
  | seq x b=>
   cases x with
   | label l=>
    obtain ⟨I,μ,h0,hround⟩:=h;refine Zk7 (λ a' w'=>∃ρ',Rel N a' ρ' D/\I ρ' w') (λ a' w'=>μ (λ n=>a'.tmps.getD n undef) w') ⟨ρ,hr,h0⟩ ?_;rintro a' w' ⟨ρ',hr',hI⟩;have hρ:∀{a:Act} {ρ:Env},Rel N a ρ D->(λ n=>a.tmps.getD n undef)=ρ:=λ h=>funext h.get;refine wp_mono (ih.2 l b rfl _ _ _ _ hok hr' (hround ρ' w' hI)) λ e a'' w'' hq=>?_
    cases e with
    | goto k=>
     obtain ⟨ρ'',hr'',hq⟩:=hq;simp only[ZZ83]at hq
     cases hh:Nat.beq k l with
     | true=>
      rw[hh]at hq;exact ⟨Qa1 hh,⟨ρ'',hr'',hq.1⟩,by rw[hρ hr'',hρ hr'];exact hq.2⟩
     | false=>rw[hh]at hq;exact hq.elim
    | panic ch=>exact hq
    | _=>exact hq
   | region i ops d=>
    have h':Zbp P X (.seq (.region i ops d) b) (ngE Q) ρ w:=by cases d<;>exact h
    have hok':codeOk N (.seq (.region i ops d) b)=true:=by cases d<;>exact hok
    refine Zgr (wp_mono (ih.1 _ _ _ _ hok' hr h') λ e a'' w'' hq=>?_)
    cases e with
    | goto k=>obtain ⟨_,_,hq⟩:=hq;exact hq.elim
    | panic ch=>exact hq
    | _=>exact hq
   | seq x y=>
    have h':Zbp P X (.seq (.seq x y) b) (ngE Q) ρ w:=h;refine Zgr (wp_mono (ih.1 _ _ _ _ hok hr h') λ e a'' w'' hq=>?_)
    cases e with
    | goto k=>obtain ⟨_,_,hq⟩:=hq;exact hq.elim
    | panic ch=>exact hq
    | _=>exact hq
   | _=>exact h.elim
  | _=>exact h.elim
 | _=>exact ⟨λ Q ρ a w _ _ h=>h.elim,λ l b h=>by cases h⟩
theorem Zcu {P:Program}{X:Pan}{N:Nat}{D:List Deferred}(hm:P.follows .mixedOrders=true)(c:Code)(Q:Exit->Env->World->Prop)(ρ:Env)(a:Act)(w:World)(hok:codeOk N c=true)(hr:Rel N a ρ D)(h:Zbp P X c Q ρ w) :
  c.wp P (post X N Q D) a w:=(Zmx hm c).1 Q ρ a w hok hr h
def Zm5 (ops:List Oper):List Nat:=ops.filterMap (·.dst)
def writes:Code->List Nat
 | .region _ ops _=>Zm5 ops.toList
 | .seq a b=>writes a++writes b
 | .cond _ x y=>writes x++writes y
 | .block _ b=>writes b
 | .loop b=>writes b
 | .scope (.seq (.label _) b)=>writes b
 | .scope (.seq (.region _ ops _) b)=>Zm5 ops.toList++writes b
 | .scope (.seq (.seq x y) b)=>(writes x++writes y)++writes b
 | _=>[]
def Zep (l:List Nat)(ρ ρ':Env):Prop:=∀n,n∉l->ρ' n=ρ n
theorem Zep.refl (l:List Nat)(ρ:Env):Zep l ρ ρ:=λ _ _=>rfl
theorem Zep.trans {l:List Nat}{a b c:Env}(h:Zep l a b)(k:Zep l b c):Zep l a c:=λ n hn=>(k n hn).trans (h n hn)
theorem Zep.sub {l l':List Nat}{a b:Env}(h:Zep l a b)(hs:∀n,n∈l->n∈l'):Zep l' a b:=λ n hn=>h n (λ hm=>hn (hs n hm))
theorem Zm4 {l:List Nat}(ρ:Env){d:Option Tmp}(v:Value)(h:∀t,d=some t->t∈l):Zep l ρ (upd ρ d v):=by
 intro n hn
 cases d with
 | none=>rfl
 | some t=>
  simp only[upd];have:Nat.beq n t=false:=by
   cases hh:Nat.beq n t with
   | false=>rfl
   | true=>exact absurd (Qa1 hh ▸ h t rfl) hn
  rw[this];rfl
theorem Zjm {P:Program}{X:Pan}{s:Sem Value}{w:World}{K K':Value->World->Prop}(h:RUN P X s w K)(hk:∀v w',K v w'->K' v w'):RUN P X s w K':=by
 unfold RUN at *;split<;>simp_all
theorem Zhh {P:Program}{X:Pan}{s:Sem Unit}{w:World}{K K':World->Prop}(h:RUNU P X s w K)(hk:∀w',K w'->K' w'):RUNU P X s w K':=by
 unfold RUNU at *;split<;>simp_all
theorem Zns {P:Program}{X:Pan}{s:Sem Next}{w:World}{K K':Value->World->Prop}(h:RUNN P X s w K)(hk:∀v w',K v w'->K' v w'):RUNN P X s w K':=by
 unfold RUNN at *;split at h
 ·exact hk _ _ h
 ·exact hk _ _ h
 ·exact h.mono λ e w'' he=>by cases e<;>first | exact hk _ _ he | exact he
 ·exact h.mono λ v w'' hv=>hk _ _ hv
 ·exact h
 ·exact h.elim
theorem Zsg {P:Program}{X:Pan}{f:Value}{args:List Value}{w:World}{K K':Value->World->Prop}(h:Zpi P X f args w K)(hk:∀v w',K v w'->K' v w'):Zpi P X f args w K':=by
 unfold Zpi at *;split at h
 ·unfold CALL at *;exact Zns h hk
 ·exact h.elim
theorem Zm7 {c a b:Value}{K K':Value->Prop}(h:PICK c a b K)(hk:∀v,K v->K' v):PICK c a b K':=by
 unfold PICK at *;split at h
 ·exact hk _ h
 ·exact h.elim
theorem Znn {c:Value}{K K':Value->Prop}(h:NILC c K)(hk:∀v,K v->K' v):NILC c K':=by
 unfold NILC at *;split at h<;>first | exact h.elim | exact hk _ h
theorem Zfo {v:Value}{F F':Bool->Prop}(h:Zef v F)(hk:∀b,F b->F' b):Zef v F':=by
 obtain ⟨b,rfl,hb⟩:=Zd5 h;cases b<;>exact hk _ hb
theorem Zl6 {g:Value}{want:Bool}{A B A' B':Prop}(h:GOK g want A B)(ha:A->A')(hb:B->B'):GOK g want A' B':=by
 unfold GOK at *;split at h
 ·exact ha h
 ·exact ha h
 ·exact hb h
theorem Zqf {P:Program}{X:Pan}{op:Op}{ty:TypeId}{e:Operand->Value}{w:World}{K K':Value->World->Prop}(h:opP P X op ty e w K)(hk:∀v w',K v w'->K' v w'):opP P X op ty e w K':=by
 cases op with
 | move x=>exact hk _ _ h
 | assign x=>exact hk _ _ h
 | pick c a b=>exact Zm7 (K:=λ v=>K v w) h λ v hv=>hk _ _ hv
 | nilCheck x=>exact Znn (K:=λ v=>K v w) h λ v hv=>hk _ _ hv
 | box t x=>exact Zjm (P:=P) (X:=X) (s:=Instr.box t (e x)) h hk
 | makeFunc fn f c=>exact Zjm (P:=P) (X:=X) (s:=Instr.makeFunc fn (f.toList.map e).toArray (c.toList.map e).toArray) h hk
 | store t a x=>exact Zhh h λ w' hw=>hk _ _ hw
 | mapUpdate t a x y=>exact Zhh h λ w' hw=>hk _ _ hw
 | insert t a x y=>exact Zhh h λ w' hw=>hk _ _ hw
 | entryStore t a x y=>exact Zhh h λ w' hw=>hk _ _ hw
 | call c=>
  obtain ⟨callee,args,argTypes⟩:=c
  cases callee with
  | value f=>exact Zsg h hk
  | invoke r m=>exact h
  | builtin b=>cases b<;>first | exact Zjm h hk | exact (h:False).elim
 | _=>first | exact Zjm h hk | exact (h:False).elim
theorem Zsx {P:Program}{X:Pan}{f:Value}{args:List Value}{w:World}{K K':Value->World->Prop}(h:Zfa P X f args w K)(hk:∀v w',K v w'->K' v w'):Zfa P X f args w K':=by
 unfold Zfa at *;split at h
 ·unfold CALL at *;exact Zns h hk
 ·obtain ⟨fn,tmps,assign,body,hrun,hr⟩:=h;exact ⟨fn,tmps,assign,body,hrun,hr.mono λ e w' he=>by cases e<;>first | exact hk _ _ he | exact he⟩
 ·exact h.elim
theorem Zx2 {P:Program}{X:Pan}{op:Op}{ty:TypeId}{e:Operand->Value}{w:World}{K K':Value->World->Prop}(h:opQ P X op ty e w K)(hk:∀v w',K v w'->K' v w'):opQ P X op ty e w K':=by
 unfold opQ at *;split at h
 ·exact Zsx h hk
 ·exact Zqf h hk
theorem Zrx {P:Program}{op:Op}{ty:TypeId}{e:Operand->Value}{w:World}{K K':Value->Option (World->Prop)->Prop}(h:Zl4 P op ty e w K)(hk:∀v f,K v f->K' v f):Zl4 P op ty e w K':=by
 have k1:∀{s:Sem Value},(PUR P s λ v=>K v none)->PUR P s λ v=>K' v none:=λ h=>let ⟨v,hv,h⟩:=Zym h;Zwy v hv (hk _ _ h)
 have k2:∀{s:Sem Value},(LD P s w λ v=>K v (some λ w'=>s.run P w' = .ok v w'))->LD P s w λ v=>K' v (some λ w'=>s.run P w' = .ok v w'):=λ h=>let ⟨v,hv,h⟩:=Zvl h;Zye v hv (hk _ _ h)
 cases op with
 | move x=>exact hk _ _ h
 | assign x=>exact hk _ _ h
 | pick c a b=>exact Zm7 (K:=λ v=>K v none) h λ v hv=>hk _ _ hv
 | nilCheck x=>exact Znn (K:=λ v=>K v none) h λ v hv=>hk _ _ hv
 | call c=>
  obtain ⟨callee,args,argTypes⟩:=c
  cases callee with
  | value f=>exact h.elim
  | invoke r m=>exact h.elim
  | builtin b=>cases b<;>first | exact k2 h | exact h.elim
 | _=>first | exact k1 h | exact k2 h | exact (h:False).elim
theorem Zt4 {P:Program}{X:Pan}{ops:Array Oper}{l:List Nat}{K K':Env->World->Prop}:∀(os:List Oper) (k:Nat) (ρ:Env) (w:World),(∀o∈os,∀t,o.dst=some t->t∈l) ->
  opsP P X ops k os ρ w K->(∀ρ' w',Zep l ρ ρ'->K ρ' w'->K' ρ' w')->opsP P X ops k os ρ w K':=by
 intro os
 induction os with
 | nil=>intro k ρ w _ h hk;exact hk _ _ (.refl _ _) h
 | cons o os ih=>
  intro k ρ w hin h hk;have ho:=hin o (by simp);have hos:∀o∈os,∀t,o.dst=some t->t∈l:=λ o h=>hin o (by simp[h]);have step:∀v w',opsP P X ops (k+1) os (upd ρ o.dst v) w' K->opsP P X ops (k+1) os (upd ρ o.dst v) w' K':=λ v w' hh=>
   ih _ _ _ hos hh λ ρ' w' ha hq=>hk _ _ ((Zm4 ρ v ho).trans ha) hq
  have run:(opQ P X o.op o.type (ev ρ) w λ v w'=>match Zen ops k with
    | true=>Zef v λ b=>opsP P X ops (k+1) os (upd ρ o.dst (.bool b)) w' K
    | false=>opsP P X ops (k+1) os (upd ρ o.dst v) w' K)->(opQ P X o.op o.type (ev ρ) w λ v w'=>match Zen ops k with
    | true=>Zef v λ b=>opsP P X ops (k+1) os (upd ρ o.dst (.bool b)) w' K'
    | false=>opsP P X ops (k+1) os (upd ρ o.dst v) w' K'):=λ hh=>Zx2 hh λ v w' hv=>by
   split at hv
   ·exact Zfo hv λ b hb=>step _ _ hb
   ·exact step _ _ hv
  unfold opsP at h |-
  cases hg:o.guard with
  | none=>rw[hg]at h;exact run h
  | some g=>rw[hg]at h;exact Zl6 h run (step _ _)
theorem Zk9:∀{Γ:Zgk} {w:World} {B B':Prop},Zn1 Γ w B->(B->B')->Zn1 Γ w B'
 | [],_,_,_,h,hb=>hb h
 | _::_,_,_,_,h,hb=>⟨h.1,Zk9 h.2 hb⟩
theorem Zn9:∀{l:List Nat} {f g:Nat->Prop},ALLC l f->(∀i,f i->g i)->ALLC l g
 | [],_,_,_,_=>trivial
 | [_],_,_,h,hk=>hk _ h
 | _::_::_,_,_,h,hk=>⟨hk _ h.1,Zn9 h.2 hk⟩
theorem Zrz {P:Program}{X:Pan}{ops:Array Oper}{l:List Nat}{K K':Env->World->Prop}(hin:∀o∈ops.toList,∀t,o.dst=some t->t∈l):∀(n:Nat) (L:Array Bool) (Γ:Zgk) (ρ:Env) (w:World),
  Zd1 P X ops n L Γ ρ w K->(∀ρ' w',Zep l ρ ρ'->K ρ' w'->K' ρ' w')->Zd1 P X ops n L Γ ρ w K':=by
 intro n
 induction n with
 | zero=>
  intro L Γ ρ w h hk;unfold Zd1 at h |-;split at h
  ·exact hk _ _ (.refl _ _) h
  ·exact h.elim
 | succ n ih=>
  intro L Γ ρ w h hk;have step:∀{i:Nat} {o:Oper},ops.toList[i]?=some o->∀L Γ v w',Zd1 P X ops n L Γ (upd ρ o.dst v) w' K->Zd1 P X ops n L Γ (upd ρ o.dst v) w' K':=λ ho L Γ v w' hh=>
   ih _ _ _ _ hh λ ρ' w' ha hq=>hk _ _ ((Zm4 ρ v (hin _ (Qe ho))).trans ha) hq
  unfold Zd1 at h |-;split at h
  ·rename_i i hfind
   cases ho:ops.toList[i]? with
   | none=>rw[ho]at h;exact h.elim
   | some o=>
    rw[ho]at h;simp only at h |-;have run:(Zl4 P o.op o.type (ev ρ) w λ v f=>match Zen ops i with
      | true=>Zef v λ b=>Zd1 P X ops n (L.setIfInBounds i true) (addF i f Γ) (upd ρ o.dst (.bool b)) w K
      | false=>Zd1 P X ops n (L.setIfInBounds i true) (addF i f Γ) (upd ρ o.dst v) w K)->(Zl4 P o.op o.type (ev ρ) w λ v f=>match Zen ops i with
      | true=>Zef v λ b=>Zd1 P X ops n (L.setIfInBounds i true) (addF i f Γ) (upd ρ o.dst (.bool b)) w K'
      | false=>Zd1 P X ops n (L.setIfInBounds i true) (addF i f Γ) (upd ρ o.dst v) w K'):=λ hh=>Zrx hh λ v f hv=>by
     split at hv
     ·exact Zfo hv λ b hb=>step ho _ _ _ _ hb
     ·exact step ho _ _ _ _ hv
    cases hg:o.guard with
    | none=>rw[hg]at h;exact run h
    | some g=>rw[hg]at h;exact Zl6 h run (step ho _ _ _ _)
  ·split at h
   ·exact hk _ _ (.refl _ _) h
   ·refine Zn9 h λ i hi=>?_
    cases ho:ops.toList[i]? with
    | none=>rw[ho]at hi;exact hi.elim
    | some o=>
     rw[ho]at hi;simp only at hi |-;have run:(opP P X o.op o.type (ev ρ) w λ v w'=>
      Zn1 (drop ops i Γ) w' (match Zen ops i with
       | true=>Zef v λ b=>Zd1 P X ops n (L.setIfInBounds i true) (drop ops i Γ) (upd ρ o.dst (.bool b)) w' K
       | false=>Zd1 P X ops n (L.setIfInBounds i true) (drop ops i Γ) (upd ρ o.dst v) w' K))->(opP P X o.op o.type (ev ρ) w λ v w'=>
      Zn1 (drop ops i Γ) w' (match Zen ops i with
       | true=>Zef v λ b=>Zd1 P X ops n (L.setIfInBounds i true) (drop ops i Γ) (upd ρ o.dst (.bool b)) w' K'
       | false=>Zd1 P X ops n (L.setIfInBounds i true) (drop ops i Γ) (upd ρ o.dst v) w' K')):=λ hh=>Zqf hh λ v w' hv=>Zk9 hv λ hv=>by
      split at hv
      ·exact Zfo hv λ b hb=>step ho _ _ _ _ hb
      ·exact step ho _ _ _ _ hv
     cases hg:o.guard with
     | none=>rw[hg]at hi;exact run hi
     | some g=>rw[hg]at hi;exact Zl6 hi run (step ho _ _ _ _)
def Mon (P:Program)(X:Pan)(c:Code):Prop:=∀(Q Q':Exit->Env->World->Prop) (ρ:Env) (w:World),Zbp P X c Q ρ w->(∀e ρ' w',Zep (writes c) ρ ρ'->Q e ρ' w'->Q' e ρ' w')->Zbp P X c Q' ρ w
theorem Zp3 {P:Program}{X:Pan}:∀(c:Code),Mon P X c/\∀l b,c = .seq (.label l) b->Mon P X b:=by
 intro c
 induction c with
 | skip=>
  refine ⟨?_,λ l b h=>by cases h⟩;intro Q Q' ρ w h hk;exact hk _ _ _ (.refl _ _) h
 | label l=>
  refine ⟨?_,λ l b h=>by cases h⟩;intro Q Q' ρ w h hk;exact hk _ _ _ (.refl _ _) h
 | exit id=>
  refine ⟨?_,λ l b h=>by cases h⟩;intro Q Q' ρ w h hk;exact hk _ _ _ (.refl _ _) h
 | ret=>
  refine ⟨?_,λ l b h=>by cases h⟩;intro Q Q' ρ w h hk;exact hk _ _ _ (.refl _ _) h
 | region id ops d=>
  refine ⟨?_,λ l b h=>by cases h⟩;intro Q Q' ρ w h hk;have hin:∀o∈ops.toList,∀t,o.dst=some t->t∈writes (.region id ops d):=λ o ho t ht=>List.mem_filterMap.2 ⟨o,ho,ht⟩
  cases d with
  | false=>exact Zt4 _ _ _ _ hin h λ ρ' w' ha hq=>hk _ _ _ ha hq
  | true=>exact Zrz hin _ _ _ _ _ h λ ρ' w' ha hq=>hk _ _ _ ha hq
 | seq x y ihx ihy=>
  refine ⟨?_,λ l b h=>by injection h with h1 h2;subst h2;exact ihy.1⟩;intro Q Q' ρ w h hk;refine ihx.1 _ _ _ _ h λ e ρ' w' ha hq=>?_;have hl:Zep (writes (.seq x y)) ρ ρ':=ha.sub λ n hn=>Q0 _ hn
  cases e with
  | normal=>exact ihy.1 _ _ _ _ hq λ e ρ'' w'' hb hq=>hk _ _ _ (hl.trans (hb.sub λ n hn=>Qa2 _ hn)) hq
  | _=>exact hk _ _ _ hl hq
 | cond c x y ihx ihy=>
  refine ⟨?_,λ l b h=>by cases h⟩;intro Q Q' ρ w h hk;refine Zfo h λ b hb=>?_
  cases b with
  | true=>exact ihx.1 _ _ _ _ hb λ e ρ' w' ha hq=>hk _ _ _ (ha.sub λ n hn=>Q0 _ hn) hq
  | false=>exact ihy.1 _ _ _ _ hb λ e ρ' w' ha hq=>hk _ _ _ (ha.sub λ n hn=>Qa2 _ hn) hq
 | block id b ih=>
  refine ⟨?_,λ l b h=>by cases h⟩;intro Q Q' ρ w h hk;refine ih.1 _ _ _ _ h λ e ρ' w' ha hq=>?_
  cases e with
  | exit k=>
   simp only[Zlr]at hq |-;cases hh:Nat.beq k id<;>rw[hh]at hq<;>exact hk _ _ _ ha hq
  | _=>exact hk _ _ _ ha hq
 | loop b ih=>
  refine ⟨?_,λ l b h=>by cases h⟩;intro Q Q' ρ w h hk;obtain ⟨I,μ,h0,hr⟩:=h;refine ⟨λ ρ' w'=>I ρ' w'/\Zep (writes b) ρ ρ',μ,⟨h0,.refl _ _⟩,λ ρ' w' ⟨hI,hA⟩=>?_⟩;refine ih.1 _ _ _ _ (hr ρ' w' hI) λ e ρ'' w'' ha hq=>?_
  cases e with
  | normal=>exact ⟨⟨hq.1,hA.trans ha⟩,hq.2⟩
  | _=>exact hk _ _ _ (hA.trans ha) hq
 | goto l=>exact ⟨λ Q Q' ρ w h hk=>hk _ _ _ (.refl _ _) h,λ l b h=>by cases h⟩
 | scope body ih=>
  refine ⟨λ Q Q' ρ w h hk=>?_,λ l b h=>by cases h⟩
  cases body with
  | seq x b=>
   cases x with
   | label l=>
    obtain ⟨I,μ,h0,hr⟩:=h;refine ⟨λ ρ' w'=>I ρ' w'/\Zep (writes b) ρ ρ',μ,⟨h0,.refl _ _⟩,λ ρ' w' ⟨hI,hA⟩=>?_⟩;refine ih.2 l b rfl _ _ _ _ (hr ρ' w' hI) λ e ρ'' w'' ha hq=>?_
    cases e with
    | goto k=>
     simp only[ZZ83]at hq |-
     cases hh:Nat.beq k l with
     | true=>rw[hh]at hq;exact ⟨⟨hq.1,hA.trans ha⟩,hq.2⟩
     | false=>rw[hh]at hq;exact hq
    | _=>exact hk _ _ _ (hA.trans ha) hq
   | region i ops d=>
    have h':Zbp P X (.seq (.region i ops d) b) (ngE Q) ρ w:=by cases d<;>exact h
    have:=ih.1 (ngE Q) (ngE Q') ρ w h' λ e ρ'' w'' ha hq=>by
     cases e with
     | goto k=>exact hq.elim
     | _=>exact hk _ _ _ ha hq
    cases d<;>exact this
   | seq x y=>
    have h':Zbp P X (.seq (.seq x y) b) (ngE Q) ρ w:=h;exact ih.1 (ngE Q) (ngE Q') ρ w h' λ e ρ'' w'' ha hq=>by
     cases e with
     | goto k=>exact hq.elim
     | _=>exact hk _ _ _ ha hq
   | _=>exact h.elim
  | _=>exact h.elim
 | _=>exact ⟨λ Q Q' ρ w h _=>h.elim,λ l b h=>by cases h⟩
theorem Zge {P:Program}{X:Pan}(c:Code)(Q Q':Exit->Env->World->Prop)(ρ:Env)(w:World)(h:Zbp P X c Q ρ w)(hk:∀e ρ' w',Zep (writes c) ρ ρ'->Q e ρ' w'->Q' e ρ' w'):Zbp P X c Q' ρ w :=
 (Zp3 c).1 Q Q' ρ w h hk
def look (l:List (Nat×(Env->World->Prop)))(id:Nat):Env->World->Prop :=
 match l with
 | []=>λ _ _=>False
 | (k,q)::l=>cond (Nat.beq k id) q (look l id)
def QX (n r:Env->World->Prop)(l:List (Nat×(Env->World->Prop))):Exit->Env->World->Prop
 | .normal=>n
 | .ret=>r
 | .exit id=>look l (2*id)
 | .goto k=>look l (2*k+1)
 | _=>λ _ _=>False
theorem Zq7 {a b:Nat}(h:a≠b):Nat.beq a b=false:=by
 cases h3:Nat.beq a b with
 | false=>rfl
 | true=>exact absurd (Qa1 h3) h
theorem Zm0:∀(l:List (Nat×(Env->World->Prop))) (id:Nat),(∀e∈l,e.1≠id)->look l id=λ _ _=>False
 | [],_,_=>rfl
 | e::l,id,h=>by
  unfold look
  simp only[Zq7 (h e (by simp)),cond_false]
  exact Zm0 l id λ e he=>h e (by simp[he])
theorem Zxv {l:List (Nat×(Env->World->Prop))}(h:(l.all λ e=>Nat.beq (e.1 % 2) 0)=true):∀e∈l,e.1 % 2=0:=λ e he=>Qa1 (Qar.1 h e he)
def Zzn:Code->Bool
 | .scope (.seq (.region _ _ _) _)=>true
 | .scope (.seq (.seq _ _) _)=>true
 | _=>false
theorem ZZ45 {P:Program}{X:Pan}{ρ:Env}{w:World}{n r:Env->World->Prop}{l:List (Nat×(Env->World->Prop))}{c:Code}(hc:Zzn (.scope c)=true)(hl:∀e∈l,e.1 % 2=0)
  (h:Zbp P X c (QX n r l) ρ w):Zbp P X (.scope c) (QX n r l) ρ w:=by
 have e:ngE (QX n r l)=QX n r l:=by
  funext e
  cases e with
  | goto k=>
   show (λ _ _=>False)=look l (2*k+1)
   rw[Zm0 l _ λ e he=>by have:=hl e he;omega]
  | _=>rfl
 have h':Zbp P X c (ngE (QX n r l)) ρ w:=by rw[e];exact h
 match c,hc,h' with
 | .seq (.region _ _ d) _,_,h'=>cases d<;>exact h'
 | .seq (.seq _ _) _,_,h'=>exact h'
section
variable {P:Program} {X:Pan} {ρ:Env} {w:World} {n r:Env->World->Prop} {l:List (Nat×(Env->World->Prop))}
theorem seqQ {x y:Code}(K:Env->World->Prop)(h:Zbp P X x (QX K r l) ρ w)(hy:∀ρ w,K ρ w->Zbp P X y (QX n r l) ρ w):Zbp P X (.seq x y) (QX n r l) ρ w:=by
 unfold Zbp;exact Zge x _ _ _ _ h λ e ρ' w' _ hq=>by cases e<;>first | exact hy _ _ hq | exact hq
theorem ZZ163 {id:Nat}{b:Code}(h:Zbp P X b (QX n r ((2*id,n)::l)) ρ w):Zbp P X (.block id b) (QX n r l) ρ w:=by
 unfold Zbp;refine Zge b _ _ _ _ h λ e ρ' w' _ hq=>?_
 cases e with
 | exit k=>
  simp only[QX,look,Zlr]at hq |-;by_cases hk:k=id
  ·subst hk;have h1:Nat.beq (2*k) (2*k)=true:=by simp
   have h2:Nat.beq k k=true:=by simp
   rw[h1]at hq;rw[h2];exact hq
  ·rw[Zq7 (show 2*id≠2*k by omega)]at hq;rw[Zq7 hk];exact hq
 | goto k=>
  simp only[QX,look]at hq;rw[Zq7 (show 2*id≠2*k+1 by omega)]at hq;exact hq
 | _=>exact hq
theorem loopQ {b:Code}(I:Env->World->Prop)(μ:Env->World->Nat)(h0:I ρ w)
  (hr:∀ρ' w',Zep (writes b) ρ ρ'->I ρ' w'->Zbp P X b (QX (λ ρ'' w''=>I ρ'' w''/\μ ρ'' w''<μ ρ' w') r l) ρ' w'):Zbp P X (.loop b) (QX n r l) ρ w:=by
 refine ⟨λ ρ' w'=>I ρ' w'/\Zep (writes b) ρ ρ',μ,⟨h0,.refl _ _⟩,λ ρ' w' ⟨hI,hA⟩=>?_⟩;refine Zge _ _ _ _ _ (hr ρ' w' hA hI) λ e ρ'' w'' ha hq=>?_
 cases e with
 | normal=>exact ⟨⟨hq.1,hA.trans ha⟩,hq.2⟩
 | _=>exact hq
theorem condQ {c:Operand}{x y:Code}{b:Bool}(hb:ev ρ c = .bool b)(hx:b=true->Zbp P X x (QX n r l) ρ w)(hy:b=false->Zbp P X y (QX n r l) ρ w):Zbp P X (.cond c x y) (QX n r l) ρ w:=by
 unfold Zbp;rw[hb]
 cases b with
 | true=>exact hx rfl
 | false=>exact hy rfl
end
theorem ZZ7 {P:Program}{X:Pan}{ρ:Env}{w:World}{n r:Env->World->Prop}{l:List (Nat×(Env->World->Prop))}{c:Operand}{x y:Code}{A B:Prop}(h:Zef (ev ρ c) λ b=>cond b A B)
  (hx:A->Zbp P X x (QX n r l) ρ w) (hy:B->Zbp P X y (QX n r l) ρ w):Zbp P X (.cond c x y) (QX n r l) ρ w:=by
 obtain ⟨b,hb,hq⟩:=Zd5 h;refine condQ hb (λ h=>hx (by rw[h]at hq;exact hq)) (λ h=>hy (by rw[h]at hq;exact hq))
def Zp (f:Func):Code:=match f.body with | some c=>c | none=> .skip
def fstC:Code->Code | .seq a _=>a | c=>c
def sndC:Code->Code | .seq _ b=>b | c=>c
def thnC:Code->Code | .cond _ a _=>a | c=>c
def elsC:Code->Code | .cond _ _ b=>b | c=>c
def blkC:Code->Code | .block _ a=>a | c=>c
def Zt8:Code->Code | .scope a=>a | c=>c
def Zez:Code->Code | .loop a=>a | c=>c
def preC:Nat->Code->Code
 | 0,.seq a _=>a
 | n+1,.seq a b=> .seq a (preC n b)
 | _,c=>c
def Zhb:Nat->Code->Code
 | 0,c=>c
 | n+1,.seq _ b=>Zhb n b
 | _,c=>c
def appC:Nat->Code->Code->Code
 | n+1,.seq a b,d=> .seq a (appC n b d)
 | _,c,d=> .seq c d
theorem appQ {P:Program}{X:Pan}{n r:Env->World->Prop}{l:List (Nat×(Env->World->Prop))}{d:Code}(K:Env->World->Prop):∀(k:Nat) {c:Code} {ρ:Env} {w:World},Zbp P X c (QX K r l) ρ w ->
  (∀ρ w,K ρ w->Zbp P X d (QX n r l) ρ w)->Zbp P X (appC k c d) (QX n r l) ρ w:=by
 intro k
 induction k with
 | zero=>intro c ρ w h hd;unfold appC;exact seqQ K h hd
 | succ k ih=>
  intro c ρ w h hd
  cases c with
  | seq a b=>
   unfold appC Zbp;unfold Zbp at h;exact Zge a _ _ _ _ h λ e ρ' w' _ hq=>by cases e<;>first | exact ih hq hd | exact hq
  | _=>exact seqQ K h hd
theorem ZZ89 {n:Nat}{l:List Nat}(h:l.elem n=false):n∉l:=λ hm=>by
 rw[List.elem_eq_true_of_mem hm]at h;cases h
theorem Zep.at {l:List Nat}{ρ ρ':Env}(h:Zep l ρ ρ')(n:Nat)(hn:l.elem n=false):ρ' n=ρ n:=h n (ZZ89 hn)
def pan (R:Ending->World->Prop):Pan:=λ ch w=>R (.panicked ch) w
def Enters (P:Program)(f:FuncId):Prop:=∀args w,(callFunc f args).run P w = .ok (.enter f args) w
theorem Zjn {P:Program}{f:FuncId}{fn:Func}{c:Code}(hm:P.follows .mixedOrders=true)(hf:P.funcs[f]?=some fn)(hb:fn.body=some c)(hok:codeOk fn.ntmps c=true)
  {args:List Value} (hargs:args.length<=fn.ntmps) {w:World} {R:Ending->World->Prop} (K:Env->World->Prop)
  (hres:∀a ρ w,Rel fn.ntmps a ρ->K ρ w->∃v,(results fn a.tmps).run P w = .ok v w/\R (.returned v) w)
  (h:Zbp P (pan R) c (QX K K []) (Zfc args) w) :
  Calls P f args.toArray w R:=by
 refine calls_of_wp hf hb (wp_mono (Zcu (D:=[]) hm c _ _ _ w hok ?_ h) λ e a w' hq=>?_)
 ·refine ⟨by simp;omega,λ n=>?_,rfl⟩;simp only[Zfc,Q9,Qc,Array.getElem?_append,Qb4,Qc3,Array.getElem?_replicate];by_cases hn:n<args.length
  ·rw[if_pos hn]
  ·rw[if_neg hn,Qx (by omega)];split<;>rfl
 ·cases e with
  | panic ch=>exact hq
  | normal=>
   obtain ⟨ρ,hr,hK⟩:=hq;exact ⟨hr.defers,hres _ _ _ hr hK⟩
  | ret=>
   obtain ⟨ρ,hr,hK⟩:=hq;exact ⟨hr.defers,hres _ _ _ hr hK⟩
  | exit id=>obtain ⟨ρ,hr,hq⟩:=hq;exact hq.elim
  | goto id=>obtain ⟨ρ,hr,hq⟩:=hq;exact hq.elim
  | outgrown=>obtain ⟨ρ,hr,hq⟩:=hq;exact hq.elim
theorem ZZ55 {P:Program}{tmps:Array Value}{a t:Nat}{w:World}{v:Value}(h:(Instr.loadAt t (tmps.getD a undef)).run P w = .ok v w) :
  ∃p,tmps[a]?.getD undef = .pointer (some p)/\(loadVar t p).run P w = .ok v w:=by
 rw[Q9]at h;unfold Instr.loadAt Instr.sureAddr at h
 cases hx:tmps[a]?.getD undef with
 | pointer p=>
  rw[hx]at h
  cases p with
  | none=>simp[Sem.run_bind,stuck]at h
  | some p=>exact ⟨p,rfl,by simpa[Sem.run_bind]using h⟩
 | _=>rw[hx]at h;simp[Sem.run_bind,stuck]at h
section
variable {P:Program} {f:FuncId} {fn:Func} {c:Code} (hm:P.follows .mixedOrders=true) (hf:P.funcs[f]?=some fn) (hb:fn.body=some c) (hok:codeOk fn.ntmps c=true)
 {args:List Value} (hargs:args.length<=fn.ntmps) {w:World} {R:Ending->World->Prop}
 include hm hf hb hok hargs
theorem Ze9 (hr:fn.results=#[])(h:Zbp P (pan R) c (QX (λ _ w=>R (.returned (.tuple #[])) w) (λ _ w=>R (.returned (.tuple #[])) w) []) (Zfc args) w):Calls P f args.toArray w R :=
 Zjn hm hf hb hok hargs _ (λ _ _ _ _ hR=>⟨_,results_none hr _ _ _,hR⟩) h
theorem Zfb {t:Nat}(hr:fn.results=#[.tmp t])(h:Zbp P (pan R) c (QX (λ ρ w=>R (.returned (ρ t)) w) (λ ρ w=>R (.returned (ρ t)) w) []) (Zfc args) w):Calls P f args.toArray w R :=
 Zjn hm hf hb hok hargs _ (λ a ρ w hrel hR=>⟨_,results_tmp hr _ _ _,by rw[hrel.get];exact hR⟩) h
theorem Zg4 {t u:Nat}(hr:fn.results=#[.tmp t,.tmp u])(h:Zbp P (pan R) c (QX (λ ρ w=>R (.returned (.tuple #[ρ t,ρ u])) w) (λ ρ w=>R (.returned (.tuple #[ρ t,ρ u])) w) []) (Zfc args) w):Calls P f args.toArray w R :=
 Zjn hm hf hb hok hargs _ (λ a ρ w hrel hR=>⟨_,results_tmp2 hr _ _ _,by rw[hrel.get,hrel.get];exact hR⟩) h
theorem Zo3 {a0 t0 u1:Nat}(hr:fn.results=#[.cell a0 t0,.tmp u1])(h:Zbp P (pan R) c (QX (λ ρ w=>LD P (Instr.loadAt t0 (ρ a0)) w λ r0=>R (.returned (.tuple #[r0,ρ u1])) w) (λ ρ w=>LD P (Instr.loadAt t0 (ρ a0)) w λ r0=>R (.returned (.tuple #[r0,ρ u1])) w) []) (Zfc args) w):Calls P f args.toArray w R :=
 Zjn hm hf hb hok hargs _ (λ a ρ w hrel hR=>by
  obtain ⟨r0,h0,hR⟩:=Zvl hR
  rw[<-hrel.get]at h0
  obtain ⟨p0,q0,k0⟩:=ZZ55 h0
  refine ⟨.tuple #[r0,ρ u1],?_,hR⟩
  simp only[<-hrel.get]
  simp[results,hr,asAddr,k0,q0]) h
end
end Go.Px
