/-
  Texts of this claim: PxBase, PxRegion, PxCode, PxUser.
-/
import Derived.WalkKit
import Derived.Deep.Quiet
import Derived.RangeFuncFrom
import Derived.RangeFuncCalls
import Derived.TacticsIn
import Derived.Still
import Derived.Scope
import Derived.Below
import Derived.OwnWalk
/-
  A way of reading the model's code as a predicate over named slots: 'codeP', proved sound once against 'Code.wp'.
  No program is in sight here.
-/
namespace Go.Px

/-! ### Slots -/
abbrev Env:=Nat→Value

def upd (ρ:Env):Option Tmp→Value→Env
 | none,_=>ρ
 | some d,v=>fun n=>cond (Nat.beq n d) v (ρ n)

def ev (ρ:Env):Operand→Value
 | .tmp t=>ρ t
 | .const v=>v
 | .global g => .pointer (some ⟨g,0,none⟩)
 | .func f => .func (.func f) #[] #[]

def envOf (l:List Value):Env:=fun n=>l.getD n undef

/-- The frame 'a' of 'N' slots holds what 'ρ' says. -/
structure Rel (N:Nat) (a:Act) (ρ:Env) (D:List Deferred:=[]):Prop where
 size:a.tmps.size=N
 get:∀n,a.tmps.getD n undef=ρ n
 defers:a.defers=D

theorem Rel.eval {N:Nat} {a:Act} {ρ:Env} {D:List Deferred} (h:Rel N a ρ D):a.eval=ev ρ:=by
 funext x
 cases x with
 | tmp t=>exact h.get t
 | _=>rfl

def dstIn (N:Nat):Option Tmp→Bool
 | none=>true
 | some d=>Nat.blt d N

theorem Rel.put {N:Nat} {a:Act} {ρ:Env} {D:List Deferred} (h:Rel N a ρ D) {d:Option Tmp} (hd:dstIn N d=true) (v:Value):Rel N (a.put d v) (upd ρ d v) D:=by
 cases d with
 | none=>exact h
 | some d =>
  have hd':d<N:=by simpa [dstIn,Nat.blt_eq] using hd
  refine ⟨by simp [Act.put,h.size],fun n=>?_,h.defers⟩
  have hg:=h.get n
  simp only [Act.put,upd]
  by_cases hn:n=d
  ·subst hn
   simp [h.size,hd']
  ·have:(Nat.beq n d)=false:=by
    cases h:Nat.beq n d with
    | false=>rfl
    | true=>exact absurd (Nat.eq_of_beq_eq_true h) hn
   rw [this]
   simp only [cond_false]
   rw [←hg]
   simp only [Array.getD_eq_getD_getElem?]
   rw [Array.getElem?_setIfInBounds_ne (by omega)]

/-! ### Operations. ('Tok': what stands under it is not gone into by simp.) -/
def Tok {α:Sort _} (_:α):Type:=Unit
def tok {α:Sort _} (a:α):Tok a:=()
abbrev Pan:=List PanicEntry→World→Prop

def RUN (P:Program) (X:Pan) (s:Sem Value) (w:World) (K:Value→World→Prop) (_x:Tok X:=tok X) (_k:Tok K:=tok K):Prop :=
 match s.run P w with
 | .ok v w'=>K v w'
 | .halt (.panic v) w'=>X [{v,recovered:=false }] w'
 | _=>False

def RUNU (P:Program) (X:Pan) (s:Sem Unit) (w:World) (K:World→Prop) (_x:Tok X:=tok X) (_k:Tok K:=tok K):Prop :=
 match s.run P w with
 | .ok _ w'=>K w'
 | .halt (.panic v) w'=>X [{v,recovered:=false }] w'
 | _=>False

def RUNN (P:Program) (X:Pan) (s:Sem Next) (w:World) (K:Value→World→Prop):Prop :=
 match s.run P w with
 | .ok (.value v) w'=>K v w'
 | .ok .skip w'=>K undef w'
 | .ok (.enter f args) w'=>Calls P f args w' fun
   | .returned v,w''=>K v w''
   | .panicked ch,w''=>X ch w''
   | .outgrown,_=>False
 | .ok (.row row args) w'=>Rows P row args w' K
 | .halt (.panic v) w'=>X [{v,recovered:=false }] w'
 | _=>False

def CALL (P:Program) (X:Pan) (f:FuncId) (args:Array Value) (w:World) (K:Value→World→Prop) (_x:Tok X:=tok X) (_k:Tok K:=tok K):Prop:=RUNN P X (callFunc f args) w K

def CALLV (P:Program) (X:Pan) (f:Value) (args:List Value) (w:World) (K:Value→World→Prop) (_x:Tok X:=tok X) (_k:Tok K:=tok K):Prop :=
 match f with
 | .func (.func g) first cap=>CALL P X g (first.toList++args++cap.toList).toArray w K
 | _=>False

/-- A call of yield: a round of the loop over this iterator. -/
def YIELD (P:Program) (X:Pan) (l:Nat) (args:Array Value) (w:World) (K:Value→World→Prop) (_x:Tok X:=tok X) (_k:Tok K:=tok K):Prop :=
 YieldAt Fence.wide 0 P l args w fun
  | .returned v,w'=>K v w'
  | .panicked ch,w'=>X ch w'
  | .outgrown,_=>False

/-- A call of a function value that may be a loop's body. -/
def CALLY (P:Program) (X:Pan) (f:Value) (args:List Value) (w:World) (K:Value→World→Prop) (_x:Tok X:=tok X) (_k:Tok K:=tok K):Prop :=
 match f with
 | .func (.func g) first cap=>CALL P X g (first.toList++args++cap.toList).toArray w K
 | .func (.yield l) first _=>YIELD P X l (first.toList++args).toArray w K
 | _=>False

def PICK (c a b:Value) (K:Value→Prop) (_k:Tok K:=tok K):Prop :=
 match c with
 | .bool t=>K (cond t a b)
 | _=>False

def NILC (v:Value) (K:Value→Prop) (_k:Tok K:=tok K):Prop :=
 match v with
 | .pointer none | .nilIface | .nilFunc=>False
 | .func (.method _) _ _=>False
 | v=>K v

def SPL (v:Value) (A B:Prop) (_a:Tok A:=tok A) (_b:Tok B:=tok B):Prop :=
 match v with
 | .bool true=>A
 | .bool false=>B
 | _=>False

def SPLITF (v:Value) (F:Bool→Prop):Prop:=SPL v (F true) (F false)

def bins (op:BinOp) (t:TypeId) (x y:Operand) (a b:Value):Sem Value:=do eqGuard op t x y a b;binOp op t a b

inductive RK where
 | pure | load | eff

def rkind:Op→RK
 | .move _ | .assign _ | .pick .. | .nilCheck _ | .fieldAddr .. | .indexAddr .. | .binOp .. | .unOp .. | .extract .. | .field .. | .index .. | .slice .. | .build .. | .makeFunc .. | .makeInterface .. => .pure
 | .load .. | .lookup .. | .convert .. => .load
 | .call {callee := .builtin .len,.. } | .call {callee := .builtin .cap,.. } => .load
 | _ => .eff

/-- The operations that yield a value by one run of their own. -/
def semOf (op:Op) (ty:TypeId) (e:Operand→Value):Option (Sem Value) :=
 match op with
 | .alloc t=>some (Instr.alloc t true (.tuple #[]))
 | .box t x=>some (Instr.box t (e x))
 | .build t parts=>some (Instr.build t (parts.toList.map fun p=>(p.1,e p.2)).toArray)
 | .buildSlice t len parts=>some (Instr.buildSlice t len (parts.toList.map fun p=>(p.1,e p.2)).toArray)
 | .load t a=>some (Instr.loadAt t (e a))
 | .binOp op t x y _=>some (bins op t x y (e x) (e y))
 | .unOp op _ x=>some (Op.unary op (e x))
 | .convert s d x=>some (convert s d (e x))
 | .makeInterface t x=>some (Instr.makeInterface t (e x))
 | .makeFunc fn first cap=>some (Instr.makeFunc fn (first.toList.map e).toArray (cap.toList.map e).toArray)
 | .makeMap t r=>some (Instr.makeMap t (r.map e))
 | .makeSlice t l c=>some (Instr.makeSlice t (e l) (e c))
 | .slice t x lo hi mx=>some (Instr.sliceAt t (e x) (lo.map e) (hi.map e) (mx.map e))
 | .fieldAddr s x f=>some (Instr.fieldAt s (e x) f)
 | .field t x f=>some (Instr.field t (e x) f)
 | .indexAddr t x i=>some (Instr.indexAt t (e x) (e i))
 | .index t x i=>some (Instr.index t (e x) (e i))
 | .lookup t x i ok=>some (Instr.lookup t (e x) (e i) ok)
 | .mapEntry t m k=>some (Instr.mapEntry t (e m) (e k))
 | .range t x=>some (Instr.range t (e x))
 | .next it s=>some (Instr.next (e it) s ty)
 | .entry it=>some (Instr.entry (e it))
 | .typeAssert x t u ok=>some (Instr.typeAssert (e x) t u ok)
 | .extract t i=>some (Instr.extract (e t) i)
 | .panic x=>some (Instr.panic (e x))
 | .call c =>
  match c.callee with
  | .builtin .append=>some (Builtin.append_ c.argTypes ty (c.args.toList.map e).toArray)
  | .builtin .len=>some (Builtin.len_ c.argTypes ty (c.args.toList.map e).toArray)
  | .builtin .cap=>some (Builtin.cap_ c.argTypes ty (c.args.toList.map e).toArray)
  | .builtin .copy=>some (Builtin.copy_ c.argTypes ty (c.args.toList.map e).toArray)
  | .builtin .delete=>some (Builtin.delete_ c.argTypes ty (c.args.toList.map e).toArray)
  | .builtin .clear=>some (Builtin.clear_ c.argTypes ty (c.args.toList.map e).toArray)
  | .builtin .min=>some (Builtin.min_ c.argTypes ty (c.args.toList.map e).toArray)
  | .builtin .max=>some (Builtin.max_ c.argTypes ty (c.args.toList.map e).toArray)
  | .builtin .unsafeString=>some (Builtin.unsafeString_ c.argTypes ty (c.args.toList.map e).toArray)
  | .builtin .unsafeSliceData=>some (Builtin.unsafeSliceData_ c.argTypes ty (c.args.toList.map e).toArray)
  | _=>none
 | _=>none

def opP (P:Program) (X:Pan) (op:Op) (ty:TypeId) (e:Operand→Value) (w:World) (K:Value→World→Prop):Prop :=
 match op with
 | .move x=>K (e x) w
 | .assign x=>K (e x) w
 | .pick c a b=>PICK (e c) (e a) (e b) fun v=>K v w
 | .nilCheck x=>NILC (e x) fun v=>K v w
 | .store t a x=>RUNU P X (Instr.storeAt t (e a) (e x)) w fun w'=>K undef w'
 | .mapUpdate t m k x=>RUNU P X (Instr.mapUpdate t (e m) (e k) (e x)) w fun w'=>K undef w'
 | .insert t m k x=>RUNU P X (Instr.mapUpdate t (e m) (e k) (e x)) w fun w'=>K undef w'
 | .entryStore t m s x=>RUNU P X (Instr.entryStore t (e m) (e s) (e x)) w fun w'=>K undef w'
 | .call {callee := .value f,args,.. }=>CALLV P X (e f) (args.toList.map e) w K
 | op =>
  match semOf op ty e with
  | some s=>RUN P X s w K
  | none=>False

/-- .. in a region that keeps the listed order, a call may be of yield. -/
def opQ (P:Program) (X:Pan) (op:Op) (ty:TypeId) (e:Operand→Value) (w:World) (K:Value→World→Prop):Prop :=
 match op with
 | .call {callee := .value f,args,.. }=>CALLY P X (e f) (args.toList.map e) w K
 | op=>opP P X op ty e w K

theorem upon_RUN {P:Program} {X:Pan} {s:Sem Value} {w:World} {K:Value→World→Prop} {o:Oper} {a:Act} {next:Act→World→Prop} {Q:Exit→Act→World→Prop}
  (h:RUN P X s w K) (hX:∀ch w',X ch w'→Q (.panic ch) a w') (hK:∀v w',K v w'→next (a.put o.dst v) w') :
  o.upon P a next Q ((do pure (.value (←s)):Sem Next).run P w):=by
 unfold RUN at h
 simp only [Sem.run_bind]
 split at h
 ·rename_i v w' hr
  simp only [hr,Result.andThen_ok,Sem.run_pure]
  exact hK _ _ h
 ·rename_i v w' hr
  rw [hr]
  exact hX _ _ h
 ·exact h.elim

theorem upon_RUNU {P:Program} {X:Pan} {s:Sem Unit} {w:World} {K:World→Prop} {o:Oper} {a:Act} {next:Act→World→Prop} {Q:Exit→Act→World→Prop}
  (h:RUNU P X s w K) (hX:∀ch w',X ch w'→Q (.panic ch) a w') (hK:∀w',K w'→next (a.put o.dst undef) w') :
  o.upon P a next Q ((do s;pure .skip:Sem Next).run P w):=by
 unfold RUNU at h
 simp only [Sem.run_bind]
 split at h
 ·rename_i v w' hr
  simp only [hr,Result.andThen_ok,Sem.run_pure]
  exact hK _ h
 ·rename_i v w' hr
  rw [hr]
  exact hX _ _ h
 ·exact h.elim

theorem upon_RUNN {P:Program} {X:Pan} {s:Sem Next} {w:World} {K:Value→World→Prop} {o:Oper} {a:Act} {next:Act→World→Prop} {Q:Exit→Act→World→Prop}
  (h:RUNN P X s w K) (hX:∀ch w',X ch w'→Q (.panic ch) a w') (hK:∀v w',K v w'→next (a.put o.dst v) w') :
  o.upon P a next Q (s.run P w):=by
 unfold RUNN at h
 split at h
 ·rename_i v w' hr;rw [hr];exact hK _ _ h
 ·rename_i w' hr;rw [hr];exact hK _ _ h
 ·rename_i f args w' hr
  rw [hr]
  refine h.mono fun e w'' he=>?_
  cases e with
  | returned v=>exact hK _ _ he
  | panicked ch=>exact hX _ _ he
  | outgrown=>exact he.elim
 ·rename_i row args w' hr;rw [hr];exact h.mono fun v w' hv=>hK _ _ hv
 ·rename_i v w' hr;rw [hr];exact hX _ _ h
 ·exact h.elim

theorem map_toList (c:Array Operand) (e:Operand→Value):c.map e=(c.toList.map e).toArray:=by
 apply Array.ext';simp

theorem map_toList2 (c:Array (Nat×Operand)) (e:Operand→Value):(c.map fun (i,x)=>(i,e x))=(c.toList.map fun p=>(p.1,e p.2)).toArray:=by
 apply Array.ext';simp

theorem opP_sound {P:Program} {X:Pan} {o:Oper} {e:Operand→Value} {w:World} {K:Value→World→Prop} {a:Act} {next:Act→World→Prop} {Q:Exit→Act→World→Prop}
  (h:opP P X o.op o.type e w K) (hX:∀ch w',X ch w'→Q (.panic ch) a w') (hK:∀v w',K v w'→next (a.put o.dst v) w') :
  o.upon P a next Q ((execOp e o).run P w):=by
 obtain ⟨dst,op,ty,pos,after,guard⟩:=o
 unfold execOp
 cases op with
 | move x=>simp only [Sem.run_pure];exact hK _ _ h
 | assign x=>simp only [Sem.run_pure];exact hK _ _ h
 | pick c x y =>
  simp only [opP,PICK] at h
  split at h
  ·rename_i t ht
   simp only [ht,asBool,Sem.run_bind,Sem.run_pure,Result.andThen_ok]
   cases t <;> exact hK _ _ h
  ·exact h.elim
 | nilCheck x =>
  simp only [opP,NILC] at h
  simp only []
  split at h
  ·exact h.elim
  ·exact h.elim
  ·exact h.elim
  ·exact h.elim
  ·rename_i h1 h2 h3 h4
   split <;> first
    | (rename_i hx;exact absurd hx h1)
    | (rename_i hx;exact absurd hx h2)
    | (rename_i hx;exact absurd hx h3)
    | (rename_i hx;exact absurd hx (h4 _ _ _))
    | (simp only [Sem.run_pure];exact hK _ _ h)
 | store t x y=>exact upon_RUNU h hX (fun w' hw=>hK _ _ hw)
 | mapUpdate t m k x=>exact upon_RUNU h hX (fun w' hw=>hK _ _ hw)
 | insert t m k x=>exact upon_RUNU h hX (fun w' hw=>hK _ _ hw)
 | entryStore t m k x=>exact upon_RUNU h hX (fun w' hw=>hK _ _ hw)
 | alloc t=>exact upon_RUN h hX hK
 | box t x=>exact upon_RUN h hX hK
 | build t ps=>simp only [map_toList2];exact upon_RUN h hX hK
 | buildSlice t n ps=>simp only [map_toList2];exact upon_RUN h hX hK
 | load t x=>exact upon_RUN h hX hK
 | binOp op t x y u=>exact upon_RUN h hX hK
 | unOp op t x=>exact upon_RUN h hX hK
 | convert s d x=>exact upon_RUN h hX hK
 | makeInterface t x=>exact upon_RUN h hX hK
 | makeFunc fn f c=>simp only [map_toList];exact upon_RUN h hX hK
 | makeMap t r=>exact upon_RUN h hX hK
 | makeSlice t l c=>exact upon_RUN h hX hK
 | slice t x l hi m=>exact upon_RUN h hX hK
 | fieldAddr s x f=>exact upon_RUN h hX hK
 | field s x f=>exact upon_RUN h hX hK
 | indexAddr s x f=>exact upon_RUN h hX hK
 | index s x f=>exact upon_RUN h hX hK
 | lookup s x f ok=>exact upon_RUN h hX hK
 | mapEntry s x f=>exact upon_RUN h hX hK
 | range s x=>exact upon_RUN h hX hK
 | next s x=>exact upon_RUN h hX hK
 | entry s=>exact upon_RUN h hX hK
 | typeAssert x t u ok=>exact upon_RUN h hX hK
 | extract t i=>exact upon_RUN h hX hK
 | panic x=>exact upon_RUN h hX hK
 | call c =>
  obtain ⟨callee,args,argTypes⟩:=c
  cases callee with
  | value f =>
   simp only [opP,CALLV] at h
   split at h
   ·rename_i g first cap hf
    have hargs:first++args.map e++cap=(first.toList++args.toList.map e++cap.toList).toArray:=by
     apply Array.ext';simp
    simp only [resolve,Deferred.ofValue,hf,Sem.run_bind,Sem.run_pure,Result.andThen_ok,invoke,hargs]
    exact upon_RUNN h hX hK
   ·exact h.elim
  | invoke r m=>simp [opP,semOf] at h
  | builtin b =>
   cases b <;> simp only [opP,semOf] at h <;> first
    | exact h.elim
    | (simp only [resolve,invoke,builtin,Sem.run_bind,Sem.run_pure,Result.andThen_ok,map_toList]
       have:=upon_RUN (o:=⟨dst,.call ⟨.builtin _,args,argTypes⟩,ty,pos,after,guard⟩) h hX hK
       simpa only [Sem.run_bind,Sem.run_pure] using this)
 | _=>simp [opP,semOf] at h

theorem uponIn_of_upon {P:Program} {o:Oper} {a:Act} {next:Act→World→Prop} {Q:Exit→Act→World→Prop} {n:Nat} {r:Result Next} (h:o.upon P a next Q r):o.uponIn Fence.wide n P a next Q r:=by
 cases r with
 | ok x w' =>
  cases x with
  | enter f args=>exact ⟨fun h=>by simp [Fence.wide] at h,callsIn_wide.2 h⟩
  | row row args =>
   refine ⟨fun h=>by simp [Fence.wide] at h,fun c cs _=>?_⟩
   obtain ⟨v,w'',hr,hs⟩:=h c cs
   exact ⟨v,w'',hr,stepsIn_wide.2 hs⟩
  | value v=>exact h
  | skip=>exact h
  | defer d=>exact h
  | _=>exact h.elim
 | halt x w' =>
  cases x with
  | panic v=>exact h
  | _=>exact h.elim

theorem opQ_sound {P:Program} {X:Pan} {o:Oper} {e:Operand→Value} {w:World} {K:Value→World→Prop} {a:Act} {next:Act→World→Prop} {Q:Exit→Act→World→Prop}
  (h:opQ P X o.op o.type e w K) (hX:∀ch w',X ch w'→Q (.panic ch) a w') (hK:∀v w',K v w'→next (a.put o.dst v) w') :
  o.uponIn Fence.wide 0 P a next Q ((execOp e o).run P w):=by
 by_cases hv:∃f args ts,o.op = .call ⟨.value f,args,ts⟩
 ·obtain ⟨f,args,ts,hop⟩:=hv
  rw [hop] at h
  simp only [opQ] at h
  by_cases hy:∃l first cap,e f = .func (.yield l) first cap
  ·obtain ⟨l,first,cap,hf⟩:=hy
   rw [hf] at h
   obtain ⟨fn,tmps,assign,body,hrun,hr⟩:=h
   have hargs:first++args.map e=(first.toList++args.toList.map e).toArray:=by
    apply Array.ext';simp
   have hx:(execOp e o).run P w = .ok (.round l fn tmps assign body) w:=by
    obtain ⟨dst,op,ty,pos,after,guard⟩:=o
    simp only at hop
    subst hop
    unfold execOp
    simp only [resolve,Deferred.ofValue,hf,Sem.run_bind,Sem.run_pure,Result.andThen_ok,invoke,hargs]
    exact hrun
   rw [hx]
   refine ⟨fun h=>by simp [Fence.wide] at h,hr.mono fun ev w' he=>?_⟩
   cases ev with
   | returned v=>exact hK _ _ he
   | panicked ch=>exact hX _ _ he
   | outgrown=>exact he.elim
  ·refine uponIn_of_upon (opP_sound (K:=K) (X:=X) ?_ hX hK)
   rw [hop]
   simp only [opP]
   unfold CALLY at h
   split at h
   ·rename_i hf;rw [hf];exact h
   ·rename_i hf;exact absurd ⟨_,_,_,hf⟩ hy
   ·exact h.elim
 ·refine uponIn_of_upon (opP_sound (K:=K) (X:=X) ?_ hX hK)
  unfold opQ at h
  split at h
  ·rename_i f args ts hop
   exact absurd ⟨_,_,_,hop⟩ hv
  ·exact h

attribute [irreducible] RUN RUNU RUNN CALL
end Go.Px

/-
  Regions: the listed order, and regions that draw their order (reads first; what was read stays true behind each operation that is not ordered behind it).
-/
namespace Go.Px

section
variable {P:Program} {ops:Array Oper}

def gval (ops:Array Oper) (ρ:Env) (j:Nat):Value :=
 match (ops.toList[j]?).bind (·.dst) with
 | some d=>ρ d
 | none=>undef

def isGuard (ops:Array Oper) (k:Nat):Bool:=ops.toList.any fun o=>match o.guard with | some (j,_)=>Nat.beq j k | none=>false

def GOK (g:Value) (want:Bool) (A B:Prop):Prop :=
 match g,want with
 | .bool true,true=>A
 | .bool false,false=>A
 | _,_=>B

def dstsIn (N:Nat) (ops:Array Oper):Bool:=ops.toList.all fun o=>dstIn N o.dst

theorem yielded_rel {N:Nat} {a:Act} {ρ:Env} {D:List Deferred} (h:Rel N a ρ D) (hd:dstsIn N ops=true) (j:Nat) :
  yielded ops a.tmps j=match gval ops ρ j with | .bool b=>some b | _=>none:=by
 unfold yielded gval
 rw [←Array.getElem?_toList]
 cases ho:ops.toList[j]? with
 | none=>rfl
 | some o =>
  cases hdst:o.dst with
  | none=>simp only [Option.bind_some,hdst];rfl
  | some d =>
   simp only [Option.bind_some,hdst]
   have hin:dstIn N (some d)=true:=by
    have:=List.all_eq_true.1 hd o (List.mem_of_getElem? ho)
    rwa [hdst] at this
   have hlt:d<a.tmps.size:=by rw [h.size];simpa [dstIn,Nat.blt_eq] using hin
   have hg:=h.get d
   rw [Array.getD_eq_getD_getElem?,Array.getElem?_eq_getElem hlt] at hg
   rw [Array.getElem?_eq_getElem hlt]
   simp only [Option.getD_some] at hg
   rw [hg]
   cases ρ d <;> rfl

theorem wanted_none {o:Oper} (h:o.guard=none) (y:Nat→Option Bool):Region.wanted o y=true:=by simp [Region.wanted,h]

theorem wanted_some {N:Nat} {a:Act} {ρ:Env} {D:List Deferred} (h:Rel N a ρ D) (hd:dstsIn N ops=true) {o:Oper} {j:Nat} {want:Bool} (hg:o.guard=some (j,want)) {A B:Prop}
  (H:GOK (gval ops ρ j) want A B):(Region.wanted o (yielded ops a.tmps)=true∧A)∨(Region.wanted o (yielded ops a.tmps)=false∧B):=by
 have hw:Region.wanted o (yielded ops a.tmps)=((match gval ops ρ j with | .bool b=>some b | _=>none) == some want):=by
  unfold Region.wanted
  rw [hg]
  simp only []
  rw [yielded_rel h hd]
 rw [hw]
 unfold GOK at H
 clear hw
 generalize gval ops ρ j=g at *
 cases g with
 | bool b=>cases b <;> cases want <;> first | exact .inl ⟨rfl,H⟩ | exact .inr ⟨rfl,H⟩
 | _=>exact .inr ⟨rfl,H⟩

/-! ### The listed order -/
def opsP (P:Program) (X:Pan) (ops:Array Oper):Nat→List Oper→Env→World→(Env→World→Prop)→Prop
 | _,[],ρ,w,K=>K ρ w
 | k,o::rest,ρ,w,K =>
  let run:Prop:=opQ P X o.op o.type (ev ρ) w fun v w' =>
   match isGuard ops k with
   | true=>SPLITF v fun b=>opsP P X ops (k+1) rest (upd ρ o.dst (.bool b)) w' K
   | false=>opsP P X ops (k+1) rest (upd ρ o.dst v) w' K
  match o.guard with
  | none=>run
  | some (j,want)=>GOK (gval ops ρ j) want run (opsP P X ops (k+1) rest (upd ρ o.dst undef) w K)

theorem SPLITF_elim {v:Value} {F:Bool→Prop} (h:SPLITF v F):∃b,v = .bool b∧F b:=by
 unfold SPLITF SPL at h
 split at h
 ·exact ⟨_,rfl,h⟩
 ·exact ⟨_,rfl,h⟩
 ·exact h.elim

theorem opsP_sound {X:Pan} {N:Nat} {D:List Deferred} {Q:Exit→Act→World→Prop} (hX:∀ch a w,a.defers=D→X ch w→Q (.panic ch) a w) (hd:dstsIn N ops=true) {K:Env→World→Prop} (hK:∀a ρ w,Rel N a ρ D→K ρ w→Q .normal a w) :
  ∀(l:List Oper) (k:Nat) (ρ:Env) (a:Act) (w:World),(∀o∈l,dstIn N o.dst=true)→Rel N a ρ D→opsP P X ops k l ρ w K→wpListIn Fence.wide 0 P ops Q l a w:=by
 intro l
 induction l with
 | nil=>intro k ρ a w _ hr h;exact hK _ _ _ hr h
 | cons o rest ih =>
  intro k ρ a w hin hr h
  have hdo:=hin o (by simp)
  have hrest:∀o∈rest,dstIn N o.dst=true:=fun o ho=>hin o (by simp [ho])
  have run:(opQ P X o.op o.type (ev ρ) w fun v w'=>match isGuard ops k with
    | true=>SPLITF v fun b=>opsP P X ops (k+1) rest (upd ρ o.dst (.bool b)) w' K
    | false=>opsP P X ops (k+1) rest (upd ρ o.dst v) w' K)→o.wpIn Fence.wide 0 P a w (wpListIn Fence.wide 0 P ops Q rest) Q:=fun h=>by
   refine ⟨fun _ _=>trivial,?_⟩
   show o.uponIn Fence.wide 0 P a _ Q ((execOp a.eval o).run P w)
   rw [hr.eval]
   refine opQ_sound h (fun ch w' hx=>hX _ _ _ hr.defers hx) fun v w' hv=>?_
   split at hv
   ·obtain ⟨b,rfl,hb⟩:=SPLITF_elim hv
    exact ih _ _ _ _ hrest (hr.put hdo _) hb
   ·exact ih _ _ _ _ hrest (hr.put hdo _) hv
  unfold opsP at h
  simp only [wpListIn]
  cases hg:o.guard with
  | none =>
   rw [hg] at h
   rw [if_pos (wanted_none hg _)]
   exact run h
  | some g =>
   obtain ⟨j,want⟩:=g
   rw [hg] at h
   rcases wanted_some hr hd hg h with ⟨hw,hA⟩ | ⟨hw,hB⟩
   ·rw [if_pos hw];exact run hA
   ·rw [if_neg (by rw [hw];simp)]
    exact ⟨fun _ _=>trivial,ih _ _ _ _ hrest (hr.put hdo _) hB⟩

/-! ### Which operation waits for which -/
def direct (ops:Array Oper) (j i:Nat):Bool :=
 match ops.toList[j]? with
 | some o=>o.after.toList.any fun e=>Region.binds .any e && Nat.beq e.on i
 | none=>false

def reach (ops:Array Oper):Nat→Nat→Nat→Bool
 | 0,_,_=>false
 | n+1,j,i=>direct ops j i || (match ops.toList[j]? with
  | some o=>o.after.toList.any fun e=>Region.binds .any e && reach ops n e.on i
  | none=>false)

def Closed (ops:Array Oper) (L:Array Bool):Prop:=∀j i,L.getD j false=true→j<ops.size→direct ops j i=true→L.getD i false=true

theorem ready_direct {L:Array Bool} {j:Nat} (h:j∈Region.ready .any ops L) {i:Nat} (hd:direct ops j i=true):L.getD i false=true:=by
 obtain ⟨_,o,ho,hall⟩:=mem_ready.1 h
 unfold direct at hd
 rw [Array.getElem?_toList,ho] at hd
 obtain ⟨e,he,hb⟩:=List.any_eq_true.1 hd
 simp only [Bool.and_eq_true] at hb
 have:=hall e (by simpa using he) hb.1
 rwa [Nat.eq_of_beq_eq_true hb.2] at this

theorem getD_lt {L:Array Bool} {i:Nat} (h:L.getD i false=true):i<L.size:=by
 rcases Nat.lt_or_ge i L.size with h' | h'
 ·exact h'
 ·rw [Array.getD_eq_getD_getElem?,Array.getElem?_eq_none h'] at h;cases h

theorem getD_swap {L:Array Bool} {i:Nat} (h:L.getD i false=true):L.getD i true=true:=by
 have:=getD_lt h
 rw [Array.getD_eq_getD_getElem?,Array.getElem?_eq_getElem this] at h ⊢
 exact h

theorem closed_reach {L:Array Bool} (hc:Closed ops L):∀(n j i:Nat),(∀k,direct ops j k=true→L.getD k false=true)→reach ops n j i=true→L.getD i false=true:=by
 intro n
 induction n with
 | zero=>intro j i _ h;simp [reach] at h
 | succ n ih =>
  intro j i hj h
  simp only [reach,Bool.or_eq_true] at h
  rcases h with h | h
  ·exact hj i h
  ·cases ho:ops.toList[j]? with
   | none=>rw [ho] at h;cases h
   | some o =>
    rw [ho] at h
    obtain ⟨e,he,hb⟩:=List.any_eq_true.1 h
    simp only [Bool.and_eq_true] at hb
    have hdir:direct ops j e.on=true:=by
     unfold direct
     rw [ho]
     exact List.any_eq_true.2 ⟨e,he,by simp [hb.1]⟩
    have hk:=hj _ hdir
    refine ih e.on i (fun k hk'=>?_) hb.2
    rcases Nat.lt_or_ge e.on ops.size with hlt | hge
    ·exact hc _ _ hk hlt hk'
    ·unfold direct at hk'
     rw [List.getElem?_eq_none (by simpa using hge)] at hk'
     cases hk'

theorem ready_reach {L:Array Bool} (hc:Closed ops L) {j i n:Nat} (hj:j∈Region.ready .any ops L) (hi:L.getD i true=false):reach ops n j i=false:=by
 cases h:reach ops n j i with
 | false=>rfl
 | true =>
  have:=getD_swap (closed_reach hc n j i (fun k hk=>ready_direct hj hk) h)
  rw [this] at hi
  cases hi

theorem ready_unlisted {L:Array Bool} {j:Nat} (hj:j∈Region.ready .any ops L):L.getD j true=false:=(mem_ready.1 hj).1

theorem Closed.set {L:Array Bool} (hc:Closed ops L) {i:Nat} (hi:i∈Region.ready .any ops L):Closed ops (L.setIfInBounds i true):=by
 intro j k hj hlt hd
 by_cases hij:i=j
 ·subst hij;exact getD_set_true (ready_direct hi hd)
 ·rw [getD_set_ne false hij] at hj
  exact getD_set_true (hc j k hj hlt hd)

theorem closed_none (n:Nat):Closed ops (Array.replicate n false):=fun j i h _ _=>by
 have:=getD_lt h
 simp at this
 simp [this] at h

/-! ### All orders -/
abbrev Facts:=List (Nat×(World→Prop))

/-- What is still to be kept behind operation 'i'. -/
def drop (ops:Array Oper) (i:Nat) (Γ:Facts):Facts:=Γ.filter fun γ => !reach ops ops.size i γ.1

theorem mem_drop {i:Nat} {Γ:Facts} {γ:Nat×(World→Prop)}:γ∈drop ops i Γ↔γ∈Γ∧reach ops ops.size i γ.1=false:=by
 simp [drop,List.mem_filter]

def W (P:Program) (ops:Array Oper) (Q:Exit→Act→World→Prop):Nat→Array Bool→Facts→Act→World→Prop
 | 0,L,_,a,w=>Region.ready .any ops L=[]∧Q .normal a w
 | n+1,L,Γ,a,w =>
  (Region.ready .any ops L=[]→Q .normal a w) ∧
  ∀i∈Region.ready .any ops L,wpOp P ops Q i (fun a' w'=>(∀γ∈drop ops i Γ,γ.2 w')∧W P ops Q n (L.setIfInBounds i true) (drop ops i Γ) a' w') a w

theorem wpAny_of_W {Q:Exit→Act→World→Prop}:∀(n:Nat) (L:Array Bool) (Γ:Facts) (a:Act) (w:World),W P ops Q n L Γ a w→wpAny P .any ops Q n L a w
 | 0,_,_,_,_,h=>h
 | n+1,_,_,_,_,h=>⟨h.1,fun i hi=>wpOp_mono (fun a' w' h'=>wpAny_of_W n _ _ a' w' h'.2) (h.2 i hi)⟩

theorem W_mono {Q:Exit→Act→World→Prop}:∀(n:Nat) (L:Array Bool) (Γ Γ':Facts) (a:Act) (w:World),(∀γ∈Γ',γ∈Γ)→W P ops Q n L Γ a w→W P ops Q n L Γ' a w
 | 0,_,_,_,_,_,_,h=>h
 | n+1,_,_,_,_,_,hs,h=>⟨h.1,fun i hi=>wpOp_mono (fun a' w' h' =>
   have hs':∀γ∈drop ops i _,γ∈drop ops i _:=fun _ hγ=>mem_drop.2 ⟨hs _ (mem_drop.1 hγ).1,(mem_drop.1 hγ).2⟩
   ⟨fun _ hγ=>h'.1 _ (hs' _ hγ),W_mono n _ _ _ a' w' hs' h'.2⟩) (h.2 i hi)⟩

/-- A fact that always stands may be added. -/
theorem W_true {Q:Exit→Act→World→Prop} (i:Nat):∀(n:Nat) (L:Array Bool) (Γ Γ':Facts) (a:Act) (w:World),(∀γ∈Γ',γ∈Γ∨γ=(i,fun _=>True))→W P ops Q n L Γ a w→W P ops Q n L Γ' a w
 | 0,_,_,_,_,_,_,h=>h
 | n+1,_,_,_,_,_,hs,h=>⟨h.1,fun j hj=>wpOp_mono (fun a' w' h' =>
   have hs':∀γ∈drop ops j _,γ∈drop ops j _∨γ=(i,fun _=>True):=fun γ hγ=>by
    rcases hs _ (mem_drop.1 hγ).1 with h1 | h1
    ·exact .inl (mem_drop.2 ⟨h1,(mem_drop.1 hγ).2⟩)
    ·exact .inr h1
   ⟨fun γ hγ=>by
    rcases hs' γ hγ with h1 | h1
    ·exact h'.1 γ h1
    ·rw [h1];trivial,W_true i n _ _ _ a' w' hs' h'.2⟩) (h.2 j hj)⟩

/-- Operation 'o' leaves 'v' in its slot, and the world as it is. -/
def yieldsR (P:Program) (ops:Array Oper) (o:Oper) (v:Value) (a:Act) (w:World):Prop :=
 (Region.wanted o (yielded ops a.tmps)=true∧(execOp a.eval o).run P w = .ok (.value v) w)∨(Region.wanted o (yielded ops a.tmps)=false∧v=undef)

theorem yieldsR.wpOp {Q:Exit→Act→World→Prop} {i:Nat} {o:Oper} {v:Value} {a:Act} {w:World} (hi:ops[i]?=some o) (hy:yieldsR P ops o v a w) {K:Act→World→Prop} (h:K (a.put o.dst v) w) :
  wpOp P ops Q i K a w:=by
 unfold Go.wpOp
 simp only [hi]
 rcases hy with ⟨hw,hr⟩ | ⟨hw,rfl⟩
 ·rw [if_pos hw];left;unfold Oper.wp;rw [hr];exact h
 ·rw [if_neg (by rw [hw];simp)];exact h

/-- All pairs of operations that are not ordered touch different slots. -/
def apartB (ops:Array Oper):Bool :=
 (List.range ops.size).all fun i=>(List.range ops.size).all fun j =>
  Nat.beq i j || reach ops ops.size i j || reach ops ops.size j i || (match ops.toList[i]?,ops.toList[j]? with
   | some x,some y=>x.apart ops y
   | _,_=>true)

theorem apartB_spec (h:apartB ops=true) {i j:Nat} {x y:Oper} (hi:ops[i]?=some x) (hj:ops[j]?=some y) (hne:i≠j) (h1:reach ops ops.size i j=false) (h2:reach ops ops.size j i=false):x.apart ops y=true:=by
 have hli:i<ops.size:=(Array.getElem?_eq_some_iff.1 hi).1
 have hlj:j<ops.size:=(Array.getElem?_eq_some_iff.1 hj).1
 have h3:=List.all_eq_true.1 (List.all_eq_true.1 h i (List.mem_range.2 hli)) j (List.mem_range.2 hlj)
 rw [h1,h2,Array.getElem?_toList,Array.getElem?_toList,hi,hj] at h3
 simp only [Bool.or_false,Bool.or_eq_true] at h3
 rcases h3 with h3 | h3
 ·exact absurd (Nat.eq_of_beq_eq_true h3) hne
 ·exact h3

theorem wpOp_put {Q:Exit→Act→World→Prop} {j:Nat} {oi oj:Oper} {v:Value} (hj:ops[j]?=some oj) (hap:oi.apart ops oj=true)
  (hsj:∀cs b,oj.op ≠ .select cs b) (hQ:∀ch a a' w,a'.defers=a.defers→Q (.panic ch) a w→Q (.panic ch) a' w) {K K':Act→World→Prop} {a:Act} {w:World}
  (hK:∀ds u w',K ((({a with defers:=ds }:Act).put oj.dst u).put oi.dst v) w'→K' (({a with defers:=ds }:Act).put oj.dst u) w')
  (h:wpOp P ops Q j K (a.put oi.dst v) w):wpOp P ops Q j K' a w:=by
 obtain ⟨h1,h2,h3⟩:=Oper.apart_spec hap
 unfold wpOp at *
 simp only [hj] at *
 rw [wanted_put oj a oi.dst v h1] at h
 have hx:execOp (a.put oi.dst v).eval oj=execOp a.eval oj:=execOp_put oj hsj a oi.dst v h1
 split
 ·rename_i hw
  rw [if_pos hw] at h
  rcases h with h | ⟨⟨h,h'⟩,h''⟩
  ·left
   unfold Oper.wp at *
   rw [hx] at h
   have hp:∀u w',K ((a.put oi.dst v).put oj.dst u) w'→K' (a.put oj.dst u) w':=fun u w' hk=>hK a.defers u w' (by rw [←Act.put_comm a v u h2];exact hk)
   have hds:a.defers=(a.put oi.dst v).defers:=by unfold Act.put;cases oi.dst <;> rfl
   have hp':∀d u w',K (({a.put oi.dst v with defers:=d::(a.put oi.dst v).defers }:Act).put oj.dst u) w'→K' (({a with defers:=d::a.defers }:Act).put oj.dst u) w':=fun d u w' hk=>by
    have hc:=Act.put_comm ({a with defers:=d::a.defers }:Act) v u h2
    refine hK (d::a.defers) u w' ?_
    rw [←hc]
    have he:({a.put oi.dst v with defers:=d::(a.put oi.dst v).defers }:Act)=({a with defers:=d::a.defers }:Act).put oi.dst v:=by
     unfold Act.put;cases oi.dst <;> rfl
    rw [←he]
    exact hk
   generalize (execOp a.eval oj).run P w=r at *
   cases r with
   | ok n w' =>
    cases n <;> simp only [Oper.upon] at h ⊢ <;> first
     | exact hp _ _ h
     | exact hp' _ _ _ h
     | (refine Calls.mono h fun e w'' he=>?_
        cases e with
        | returned u=>exact hp _ _ he
        | panicked ch=>exact hQ _ _ _ _ hds he
        | outgrown=>exact he)
     | (exact Rows.mono h fun _ _ he=>hp _ _ he)
   | halt x w'=>cases x <;> simp only [Oper.upon] at h ⊢ <;> first | exact hQ _ _ _ _ hds h | exact h
  ·right
   refine ⟨⟨?_,?_⟩,h''⟩
   ·rw [hx] at h;exact h
   ·rw [hx] at h';exact h'
 ·rename_i hw
  rw [if_neg hw] at h
  exact hK a.defers _ _ (by rw [←Act.put_comm a v undef h2];exact h)

/-- **A read that may come up now may be taken first.** 'F' is kept by whatever comes up and is not ordered behind it, and says that the read still yields 'v'. -/
theorem W_first {Q:Exit→Act→World→Prop} (hQ:∀ch a a' w,a'.defers=a.defers→Q (.panic ch) a w→Q (.panic ch) a' w) (hsel:∀(j:Nat) (o:Oper) cs b,ops[j]?=some o→o.op ≠ .select cs b) (hap:apartB ops=true)
  {i:Nat} {oi:Oper} {v:Value} {F:World→Prop} (hi:ops[i]?=some oi) :
  ∀(n:Nat) (L:Array Bool) (Γ:Facts) (a:Act) (w:World),Closed ops L→i∈Region.ready .any ops L→(∀w',F w'→yieldsR P ops oi v a w')→F w→(∀γ∈Γ,γ.2 w) →
   W P ops Q n (L.setIfInBounds i true) ((i,F)::Γ) (a.put oi.dst v) w→W P ops Q (n+1) L Γ a w:=by
 intro n
 induction n with
 | zero =>
  intro L Γ a w _ hr hF hFw hΓ H
  refine ⟨fun h=>(by rw [h] at hr;cases hr),fun j hj=>?_⟩
  by_cases hji:j=i
  ·subst hji
   exact (hF w hFw).wpOp hi ⟨fun γ hγ=>hΓ γ (mem_drop.1 hγ).1,H⟩
  ·have:=ready_mono hj hji
   rw [H.1] at this
   cases this
 | succ n ih =>
  intro L Γ a w hc hr hF hFw hΓ H
  refine ⟨fun h=>(by rw [h] at hr;cases hr),fun j hj=>?_⟩
  by_cases hji:j=i
  ·subst hji
   refine (hF w hFw).wpOp hi ⟨fun γ hγ=>hΓ γ (mem_drop.1 hγ).1,?_⟩
   exact W_mono _ _ _ _ _ _ (fun γ hγ=>List.mem_cons_of_mem _ (mem_drop.1 hγ).1) H
  ·have h1:=H.2 j (ready_mono hj hji)
   obtain ⟨_,oj,hoj,_⟩:=mem_ready.1 hj
   have r1:reach ops ops.size j i=false:=ready_reach hc hj (ready_unlisted hr)
   have r2:reach ops ops.size i j=false:=ready_reach hc hr (ready_unlisted hj)
   have hapij:=apartB_spec hap hi hoj (fun e=>hji e.symm) r2 r1
   obtain ⟨_,_,h3⟩:=Oper.apart_spec hapij
   refine wpOp_put hoj hapij (fun cs b=>hsel j oj cs b hoj) hQ (fun ds u w' hk=>?_) h1
   obtain ⟨hfacts,hW⟩:=hk
   have hFw':F w':=hfacts (i,F) (mem_drop.2 ⟨by simp,r1⟩)
   refine ⟨fun γ hγ=>hfacts γ (mem_drop.2 ⟨List.mem_cons_of_mem _ (mem_drop.1 hγ).1,(mem_drop.1 hγ).2⟩),?_⟩
   refine ih (L.setIfInBounds j true) (drop ops j Γ) _ w' (hc.set hj) (ready_mono hr (Ne.symm hji)) (fun w'' hw''=>?_) hFw' (fun γ hγ=>hfacts γ (mem_drop.2 ⟨List.mem_cons_of_mem _ (mem_drop.1 hγ).1,(mem_drop.1 hγ).2⟩)) ?_
   ·have hy:yieldsR P ops oi v ({a with defers:=ds }:Act) w'':=hF w'' hw''
    unfold yieldsR at hy ⊢
    rw [wanted_put oi _ oj.dst u h3,execOp_put oi (fun cs b=>hsel i oi cs b hi) _ oj.dst u h3]
    exact hy
   ·rw [Array.setIfInBounds_comm _ _ hji]
    refine W_mono _ _ _ _ _ _ (fun γ hγ=>?_) hW
    rcases List.mem_cons.1 hγ with rfl | hγ
    ·exact mem_drop.2 ⟨by simp,r1⟩
    ·exact mem_drop.2 ⟨List.mem_cons_of_mem _ (mem_drop.1 hγ).1,(mem_drop.1 hγ).2⟩

/-! ### Reads first -/
def PUR (P:Program) (s:Sem Value) (K:Value→Prop) (_k:Tok K:=tok K):Prop:=∃v,(∀w,s.run P w = .ok v w)∧K v
def LD (P:Program) (s:Sem Value) (w:World) (K:Value→Prop) (_k:Tok K:=tok K):Prop:=∃v,s.run P w = .ok v w∧K v

def isRead (ops:Array Oper) (i:Nat):Bool :=
 match ops.toList[i]? with
 | some o=>match rkind o.op with | .eff=>false | _=>true
 | none=>false

/-- A read: 'next v none' where what it yields hangs on no world, 'next v (some F)' where 'F' must be kept. -/
def readP (P:Program) (op:Op) (ty:TypeId) (e:Operand→Value) (w:World) (next:Value→Option (World→Prop)→Prop):Prop :=
 match op with
 | .move x=>next (e x) none
 | .assign x=>next (e x) none
 | .pick c a b=>PICK (e c) (e a) (e b) fun v=>next v none
 | .nilCheck x=>NILC (e x) fun v=>next v none
 | op =>
  match semOf op ty e with
  | some s =>
   match rkind op with
   | .pure=>PUR P s fun v=>next v none
   | .load=>LD P s w fun v=>next v (some fun w'=>s.run P w' = .ok v w')
   | .eff=>False
  | none=>False

def addF (i:Nat) (f:Option (World→Prop)) (Γ:Facts):Facts :=
 match f with
 | none=>Γ
 | some F=>(i,F)::Γ

def HOLDS:Facts→World→Prop→Prop
 | [],_,B=>B
 | γ::Γ,w,B=>γ.2 w∧HOLDS Γ w B

def ALLC:List Nat→(Nat→Prop)→Prop
 | [],_=>True
 | [i],f=>f i
 | i::l,f=>f i∧ALLC l f

def drawP (P:Program) (X:Pan) (ops:Array Oper):Nat→Array Bool→Facts→Env→World→(Env→World→Prop)→Prop
 | 0,L,_,ρ,w,K=>match Region.ready .any ops L with | []=>K ρ w | _=>False
 | n+1,L,Γ,ρ,w,K =>
  match (Region.ready .any ops L).find? (isRead ops) with
  | some i =>
   match ops.toList[i]? with
   | none=>False
   | some o =>
    let run:Prop:=readP P o.op o.type (ev ρ) w fun v f =>
     match isGuard ops i with
     | true=>SPLITF v fun b=>drawP P X ops n (L.setIfInBounds i true) (addF i f Γ) (upd ρ o.dst (.bool b)) w K
     | false=>drawP P X ops n (L.setIfInBounds i true) (addF i f Γ) (upd ρ o.dst v) w K
    match o.guard with
    | none=>run
    | some (j,want)=>GOK (gval ops ρ j) want run (drawP P X ops n (L.setIfInBounds i true) Γ (upd ρ o.dst undef) w K)
  | none =>
   match Region.ready .any ops L with
   | []=>K ρ w
   | l=>ALLC l fun i =>
    match ops.toList[i]? with
    | none=>False
    | some o =>
     let run:Prop:=opP P X o.op o.type (ev ρ) w fun v w' =>
      HOLDS (drop ops i Γ) w' (match isGuard ops i with
       | true=>SPLITF v fun b=>drawP P X ops n (L.setIfInBounds i true) (drop ops i Γ) (upd ρ o.dst (.bool b)) w' K
       | false=>drawP P X ops n (L.setIfInBounds i true) (drop ops i Γ) (upd ρ o.dst v) w' K)
     match o.guard with
     | none=>run
     | some (j,want)=>GOK (gval ops ρ j) want run (drawP P X ops n (L.setIfInBounds i true) (drop ops i Γ) (upd ρ o.dst undef) w K)

theorem HOLDS_spec:∀{Γ:Facts} {w:World} {B:Prop},HOLDS Γ w B→(∀γ∈Γ,γ.2 w)∧B
 | [],_,_,h=>⟨(fun γ hγ=>by cases hγ),h⟩
 | γ::Γ,w,B,h=>by
  obtain ⟨h1,h2⟩:=h
  obtain ⟨h3,h4⟩:=HOLDS_spec h2
  exact ⟨fun δ hδ=>by
   rcases List.mem_cons.1 hδ with rfl | hδ
   ·exact h1
   ·exact h3 _ hδ,h4⟩

theorem ALLC_spec:∀{l:List Nat} {f:Nat→Prop},ALLC l f→∀i∈l,f i
 | [],_,_,i,hi=>by cases hi
 | [j],f,h,i,hi=>by
  rcases List.mem_cons.1 hi with rfl | hi
  ·exact h
  ·cases hi
 | j::k::l,f,h,i,hi=>by
  obtain ⟨h1,h2⟩:=h
  rcases List.mem_cons.1 hi with rfl | hi
  ·exact h1
  ·exact ALLC_spec h2 i hi

theorem run_value {P:Program} {s:Sem Value} {w:World} {v:Value} (h:s.run P w = .ok v w):(do pure (.value (←s)):Sem Next).run P w = .ok (.value v) w:=by
 simp only [Sem.run_bind,h,Result.andThen_ok,Sem.run_pure]

/-- What a read says of the operation itself. -/
theorem readP_spec {o:Oper} {e:Operand→Value} {w:World} {next:Value→Option (World→Prop)→Prop} (h:readP P o.op o.type e w next) :
  ∃v f,next v f∧(∀F,f=some F→F w)∧∀w',(∀F,f=some F→F w')→(execOp e o).run P w' = .ok (.value v) w':=by
 obtain ⟨dst,op,ty,pos,after,guard⟩:=o
 have key:∀(s:Sem Value) (k:RK),semOf op ty e=some s→(match k with
    | .pure=>PUR P s fun v=>next v none
    | .load=>LD P s w fun v=>next v (some fun w'=>s.run P w' = .ok v w')
    | .eff=>False)→(∀v w',s.run P w' = .ok v w'→(execOp e ⟨dst,op,ty,pos,after,guard⟩).run P w' = .ok (.value v) w') →
   ∃v f,next v f∧(∀F,f=some F→F w)∧∀w',(∀F,f=some F→F w')→(execOp e ⟨dst,op,ty,pos,after,guard⟩).run P w' = .ok (.value v) w':=by
  intro s k _ hk hs
  cases k with
  | pure =>
   obtain ⟨v,hv,hn⟩:=hk
   exact ⟨v,none,hn,(fun F hF=>by cases hF),fun w' _=>hs v w' (hv w')⟩
  | load =>
   obtain ⟨v,hv,hn⟩:=hk
   exact ⟨v,_,hn,(fun F hF=>by cases hF;exact hv),fun w' hF=>hs v w' (hF _ rfl)⟩
  | eff=>exact hk.elim
 cases op with
 | move x=>exact ⟨_,none,h,(fun F hF=>by cases hF),fun w' _=>rfl⟩
 | assign x=>exact ⟨_,none,h,(fun F hF=>by cases hF),fun w' _=>rfl⟩
 | pick c a b =>
  simp only [readP,PICK] at h
  split at h
  ·rename_i t ht
   refine ⟨_,none,h,(fun F hF=>by cases hF),fun w' _=>?_⟩
   simp only [execOp,ht,asBool,Sem.run_bind,Sem.run_pure,Result.andThen_ok]
   cases t <;> rfl
  ·exact h.elim
 | nilCheck x =>
  simp only [readP,NILC] at h
  split at h
  ·exact h.elim
  ·exact h.elim
  ·exact h.elim
  ·exact h.elim
  ·rename_i h1 h2 h3 h4
   refine ⟨_,none,h,(fun F hF=>by cases hF),fun w' _=>?_⟩
   unfold execOp
   simp only [Sem.run_pure]
 | call c =>
  obtain ⟨callee,args,argTypes⟩:=c
  cases callee with
  | value f=>exact h.elim
  | invoke r m=>exact h.elim
  | builtin b =>
   cases b <;> first
    | exact h.elim
    | (refine key _ .load rfl h fun v w' hr=>?_
       simp only [execOp,resolve,invoke,builtin,Sem.run_bind,Sem.run_pure,Result.andThen_ok,map_toList,hr])
 | build t ps=>exact key _ .pure rfl h fun v w' hr=>by simp only [execOp,map_toList2];exact run_value hr
 | makeFunc fn fs cs=>exact key _ .pure rfl h fun v w' hr=>by simp only [execOp,map_toList];exact run_value hr
 | _=>first
  | exact h.elim
  | exact key _ .pure rfl h fun v w' hr=>run_value hr
  | exact key _ .load rfl h fun v w' hr=>run_value hr

def opsOk (N:Nat) (ops:Array Oper):Bool:=dstsIn N ops && Region.noSelect ops && apartB ops

theorem drawP_sound {P:Program} {ops:Array Oper} {X:Pan} {N:Nat} {D:List Deferred} {Q:Exit→Act→World→Prop} (hX:∀ch a w,a.defers=D→X ch w→Q (.panic ch) a w) (hQ:∀ch a a' w,a'.defers=a.defers→Q (.panic ch) a w→Q (.panic ch) a' w)
  (hok:opsOk N ops=true) {K:Env→World→Prop} (hK:∀a ρ w,Rel N a ρ D→K ρ w→Q .normal a w) :
  ∀(n:Nat) (L:Array Bool) (Γ:Facts) (ρ:Env) (a:Act) (w:World),Closed ops L→(∀γ∈Γ,γ.2 w)→Rel N a ρ D→drawP P X ops n L Γ ρ w K→W P ops Q n L Γ a w:=by
 simp only [opsOk,Bool.and_eq_true] at hok
 obtain ⟨⟨hd,hns⟩,hap⟩:=hok
 have hsel:∀(j:Nat) (o:Oper) cs b,ops[j]?=some o→o.op ≠ .select cs b:=fun j o cs b ho=>Region.noSelect_spec hns j o cs b ho
 intro n
 induction n with
 | zero =>
  intro L Γ ρ a w _ _ hr h
  unfold drawP at h
  split at h
  ·rename_i h0;exact ⟨h0,hK _ _ _ hr h⟩
  ·exact h.elim
 | succ n ih =>
  intro L Γ ρ a w hc hΓ hr h
  unfold drawP at h
  have dst_in:∀{i:Nat} {o:Oper},ops.toList[i]?=some o→dstIn N o.dst=true:=fun ho=>List.all_eq_true.1 hd _ (List.mem_of_getElem? ho)
  split at h
  ·rename_i i hfind
   have hi:i∈Region.ready .any ops L:=List.mem_of_find?_eq_some hfind
   split at h
   ·exact h.elim
   ·rename_i o ho
    have ho':ops[i]?=some o:=by rw [←Array.getElem?_toList];exact ho
    have skip:Region.wanted o (yielded ops a.tmps)=false→drawP P X ops n (L.setIfInBounds i true) Γ (upd ρ o.dst undef) w K→W P ops Q (n+1) L Γ a w:=fun hw hh=>by
     refine W_first hQ hsel hap (F:=fun _=>True) (v:=undef) ho' n L Γ a w hc hi (fun _ _ => .inr ⟨hw,rfl⟩) trivial hΓ ?_
     exact W_true i n _ Γ _ _ _ (fun γ hγ=>by
      rcases List.mem_cons.1 hγ with rfl | hγ
      ·exact .inr rfl
      ·exact .inl hγ) (ih _ _ _ _ _ (hc.set hi) hΓ (hr.put (dst_in ho) _) hh)
    have run:Region.wanted o (yielded ops a.tmps)=true→(readP P o.op o.type (ev ρ) w fun v f =>
      match isGuard ops i with
      | true=>SPLITF v fun b=>drawP P X ops n (L.setIfInBounds i true) (addF i f Γ) (upd ρ o.dst (.bool b)) w K
      | false=>drawP P X ops n (L.setIfInBounds i true) (addF i f Γ) (upd ρ o.dst v) w K)→W P ops Q (n+1) L Γ a w:=fun hw hh=>by
     obtain ⟨v,f,hn,hf,hy⟩:=readP_spec (o:=o) hh
     have hn':drawP P X ops n (L.setIfInBounds i true) (addF i f Γ) (upd ρ o.dst v) w K:=by
      split at hn
      ·obtain ⟨b,rfl,hb⟩:=SPLITF_elim hn;exact hb
      ·exact hn
     cases f with
     | none =>
      refine W_first hQ hsel hap (F:=fun _=>True) (v:=v) ho' n L Γ a w hc hi (fun w' _ => .inl ⟨hw,by rw [hr.eval];exact hy w' (fun F hF=>by cases hF)⟩) trivial hΓ ?_
      exact W_true i n _ Γ _ _ _ (fun γ hγ=>by
       rcases List.mem_cons.1 hγ with rfl | hγ
       ·exact .inr rfl
       ·exact .inl hγ) (ih _ _ _ _ _ (hc.set hi) hΓ (hr.put (dst_in ho) _) hn')
     | some F =>
      have hFw:F w:=hf F rfl
      refine W_first hQ hsel hap (F:=F) (v:=v) ho' n L Γ a w hc hi (fun w' hF => .inl ⟨hw,by rw [hr.eval];exact hy w' (fun F' hF'=>by cases hF';exact hF)⟩) hFw hΓ ?_
      refine ih _ _ _ _ _ (hc.set hi) (fun γ hγ=>?_) (hr.put (dst_in ho) _) hn'
      rcases List.mem_cons.1 hγ with rfl | hγ
      ·exact hFw
      ·exact hΓ _ hγ
    cases hg:o.guard with
    | none=>rw [hg] at h;exact run (wanted_none hg _) h
    | some g =>
     obtain ⟨j,want⟩:=g
     rw [hg] at h
     rcases wanted_some hr hd hg h with ⟨hw,hA⟩ | ⟨hw,hB⟩
     ·exact run hw hA
     ·exact skip hw hB
  ·refine ⟨fun h0=>?_,fun i hi=>?_⟩
   ·rw [h0] at h;exact hK _ _ _ hr h
   ·split at h
    ·rename_i h0;rw [h0] at hi;cases hi
    ·have h:=ALLC_spec h i hi
     split at h
     ·exact h.elim
     ·rename_i o ho
      have ho':ops[i]?=some o:=by rw [←Array.getElem?_toList];exact ho
      unfold wpOp
      simp only [ho']
      have run:(opP P X o.op o.type (ev ρ) w fun v w' =>
       HOLDS (drop ops i Γ) w' (match isGuard ops i with
        | true=>SPLITF v fun b=>drawP P X ops n (L.setIfInBounds i true) (drop ops i Γ) (upd ρ o.dst (.bool b)) w' K
        | false=>drawP P X ops n (L.setIfInBounds i true) (drop ops i Γ) (upd ρ o.dst v) w' K)) →
        o.wp P a w (fun a' w'=>(∀γ∈drop ops i Γ,γ.2 w')∧W P ops Q n (L.setIfInBounds i true) (drop ops i Γ) a' w') Q:=fun hh=>by
       unfold Oper.wp
       rw [hr.eval]
       refine opP_sound hh (fun ch w' hx=>hX _ _ _ hr.defers hx) fun v w' hv=>?_
       obtain ⟨hfs,hv⟩:=HOLDS_spec hv
       refine ⟨hfs,?_⟩
       split at hv
       ·obtain ⟨b,rfl,hb⟩:=SPLITF_elim hv
        exact ih _ _ _ _ _ (hc.set hi) hfs (hr.put (dst_in ho) _) hb
       ·exact ih _ _ _ _ _ (hc.set hi) hfs (hr.put (dst_in ho) _) hv
      cases hg:o.guard with
      | none =>
       rw [hg] at h
       rw [if_pos (wanted_none hg _)]
       exact .inl (run h)
      | some g =>
       obtain ⟨j,want⟩:=g
       rw [hg] at h
       rcases wanted_some hr hd hg h with ⟨hw,hA⟩ | ⟨hw,hB⟩
       ·rw [if_pos hw];exact .inl (run hA)
       ·rw [if_neg (by rw [hw];simp)]
        have hfs:∀γ∈drop ops i Γ,γ.2 w:=fun γ hγ=>hΓ γ (mem_drop.1 hγ).1
        exact ⟨hfs,ih _ _ _ _ _ (hc.set hi) hfs (hr.put (dst_in ho) _) hB⟩

end
theorem LD_elim {P:Program} {s:Sem Value} {w:World} {K:Value→Prop} (h:LD P s w K):∃v,s.run P w = .ok v w∧K v:=h
theorem LD_intro {P:Program} {s:Sem Value} {w:World} {K:Value→Prop} (v:Value) (h:s.run P w = .ok v w) (k:K v):LD P s w K:=⟨v,h,k⟩
theorem PUR_elim {P:Program} {s:Sem Value} {K:Value→Prop} (h:PUR P s K):∃v,(∀w,s.run P w = .ok v w)∧K v:=h
theorem PUR_intro {P:Program} {s:Sem Value} {K:Value→Prop} (v:Value) (h:∀w,s.run P w = .ok v w) (k:K v):PUR P s K:=⟨v,h,k⟩
attribute [irreducible] LD PUR
end Go.Px

/-
  Code as a predicate over slots, and that it is sound.
-/
namespace Go.Px

def thenE (N:Env→World→Prop) (Q:Exit→Env→World→Prop):Exit→Env→World→Prop
 | .normal=>N
 | e=>Q e

def blockE (id:Nat) (Q:Exit→Env→World→Prop):Exit→Env→World→Prop
 | .exit k=>cond (Nat.beq k id) (Q .normal) (Q (.exit k))
 | e=>Q e

/-- Of a labelled scope: a jump to its label goes round; other jumps are not looked at. -/
def gotoE (l:Nat) (N:Env→World→Prop) (Q:Exit→Env→World→Prop):Exit→Env→World→Prop
 | .goto k=>cond (Nat.beq k l) N (fun _ _=>False)
 | e=>Q e

def codeP (P:Program) (X:Pan):Code→(Exit→Env→World→Prop)→Env→World→Prop
 | .skip,Q,ρ,w=>Q .normal ρ w
 | .label _,Q,ρ,w=>Q .normal ρ w
 | .region _ ops false,Q,ρ,w=>opsP P X ops 0 ops.toList ρ w (Q .normal)
 | .region _ ops true,Q,ρ,w=>drawP P X ops ops.size (Array.replicate ops.size false) [] ρ w.drew (Q .normal)
 | .seq a b,Q,ρ,w=>codeP P X a (thenE (codeP P X b Q) Q) ρ w
 | .cond c x y,Q,ρ,w=>SPLITF (ev ρ c) fun b=>cond b (codeP P X x Q ρ w) (codeP P X y Q ρ w)
 | .block id b,Q,ρ,w=>codeP P X b (blockE id Q) ρ w
 | .loop b,Q,ρ,w=>∃(I:Env→World→Prop) (μ:Env→World→Nat),I ρ w∧∀ρ' w',I ρ' w'→codeP P X b (thenE (fun ρ'' w''=>I ρ'' w''∧μ ρ'' w''<μ ρ' w') Q) ρ' w'
 | .exit id,Q,ρ,w=>Q (.exit id) ρ w
 | .ret,Q,ρ,w=>Q .ret ρ w
 | .goto l,Q,ρ,w=>Q (.goto l) ρ w
 | .scope (.seq (.label l) b),Q,ρ,w=>∃(I:Env→World→Prop) (μ:Env→World→Nat),I ρ w∧∀ρ' w',I ρ' w'→codeP P X b (gotoE l (fun ρ'' w''=>I ρ'' w''∧μ ρ'' w''<μ ρ' w') Q) ρ' w'
 | _,_,_,_=>False

def codeOk (N:Nat):Code→Bool
 | .region _ ops false=>dstsIn N ops
 | .region _ ops true=>opsOk N ops
 | .seq a b=>codeOk N a && codeOk N b
 | .cond _ x y=>codeOk N x && codeOk N y
 | .block _ b=>codeOk N b
 | .loop b=>codeOk N b
 | .scope (.seq (.label _) b)=>codeOk N b
 | _=>true

/-- The posts of frames and of slots. -/
def post (X:Pan) (N:Nat) (Q:Exit→Env→World→Prop) (D:List Deferred:=[]):Exit→Act→World→Prop
 | .panic ch,a,w=>a.defers=D∧X ch w
 | e,a,w=>∃ρ,Rel N a ρ D∧Q e ρ w

theorem wp_scope_round {P:Program} {l:Nat} {c:Code} {Q:Exit→Act→World→Prop} {a:Act} {w:World} (I:Act→World→Prop) (μ:Act→World→Nat) (h0:I a w)
  (round:∀a w,I a w→c.wp P (fun | .goto k,a',w'=>k=l∧I a' w'∧μ a' w'<μ a w | e,a',w'=>Q e a' w') a w):(Code.scope (.seq (.label l) c)).wp P Q a w:=by
 intro b k cs
 have key:∀n a w,μ a w=n→I a w→∃e a' w',Q e a' w'∧(∀l,e ≠ .goto l)∧Arrives P (lone (b.at a (.code c :: .inScope (.seq (.label l) c)::k)) cs w) b (.inScope (.seq (.label l) c)::k) cs e a' w':=by
  intro n
  induction n using Nat.strongRecOn with
  | _ n ih =>
   intro a w hn hI
   obtain ⟨e,a₁,w₁,hq,harr⟩:=round a w hI b (.inScope (.seq (.label l) c)::k) cs
   cases e with
   | goto k' =>
    obtain ⟨rfl,hI₁,hlt⟩:=hq
    obtain ⟨e₂,a₂,w₂,hq₂,hne,harr₂⟩:=ih (μ a₁ w₁) (hn ▸ hlt) a₁ w₁ rfl hI₁
    have hs:=harr (.code (.seq .skip c) :: .inScope (.seq (.label k') c)::k) (by simp [gotoIn,findLabel])
    exact ⟨e₂,a₂,w₂,hq₂,hne,.of_steps (hs.trans (.head step_seq (.one step_skip))) harr₂⟩
   | normal=>exact ⟨_,a₁,w₁,hq,by simp,harr⟩
   | exit id=>exact ⟨_,a₁,w₁,hq,by simp,harr⟩
   | ret=>exact ⟨_,a₁,w₁,hq,by simp,harr⟩
   | panic ch=>exact ⟨_,a₁,w₁,hq,by simp,harr⟩
   | outgrown=>exact ⟨_,a₁,w₁,hq,by simp,harr⟩
 obtain ⟨e,a',w',hq,hne,harr⟩:=key _ a w rfl h0
 have hin:Steps P (lone (b.at a (.code (.scope (.seq (.label l) c))::k)) cs w) (lone (b.at a (.code c :: .inScope (.seq (.label l) c)::k)) cs w) :=
  .head step_scope (.head step_seq (.one step_label))
 cases e with
 | normal=>exact ⟨.normal,a',w',hq,hin.trans (Steps.trans harr (.one step_inScope))⟩
 | exit id=>exact ⟨.exit id,a',w',hq,fun k' hk=>hin.trans (harr k' (by simp [exitTo,hk]))⟩
 | goto l=>exact absurd rfl (hne l)
 | ret=>exact ⟨_,a',w',hq,.of_steps hin harr⟩
 | panic ch=>exact ⟨_,a',w',hq,.of_steps hin harr⟩
 | outgrown=>exact ⟨_,a',w',hq,.of_steps hin harr⟩

def Snd (P:Program) (X:Pan) (N:Nat) (D:List Deferred) (c:Code):Prop:=∀(Q:Exit→Env→World→Prop) (ρ:Env) (a:Act) (w:World),codeOk N c=true→Rel N a ρ D→codeP P X c Q ρ w→c.wp P (post X N Q D) a w

theorem codeP_sound' {P:Program} {X:Pan} {N:Nat} {D:List Deferred} (hm:P.follows .mixedOrders=true):∀(c:Code),Snd P X N D c∧∀l b,c = .seq (.label l) b→Snd P X N D b:=by
 intro c
 induction c with
 | skip =>
  refine ⟨?_,fun l b h=>by cases h⟩
  intro Q ρ a w _ hr h;exact wp_skip ⟨ρ,hr,h⟩
 | label l =>
  refine ⟨?_,fun l b h=>by cases h⟩
  intro Q ρ a w _ hr h;exact wp_label ⟨ρ,hr,h⟩
 | exit id =>
  refine ⟨?_,fun l b h=>by cases h⟩
  intro Q ρ a w _ hr h;exact wp_exit ⟨ρ,hr,h⟩
 | ret =>
  refine ⟨?_,fun l b h=>by cases h⟩
  intro Q ρ a w _ hr h;exact wp_ret ⟨ρ,hr,h⟩
 | region id ops d =>
  refine ⟨?_,fun l b h=>by cases h⟩
  intro Q ρ a w hok hr h
  cases d with
  | false =>
   refine wpIn_wide.1 (wpIn_region_list (n:=0) ?_)
   exact opsP_sound (Q:=post X N Q D) (fun _ _ _ hd hx=>⟨hd,hx⟩) hok (fun a ρ w hr hk=>⟨ρ,hr,hk⟩) _ _ _ _ _ (fun o ho=>List.all_eq_true.1 hok o ho) hr h
  | true =>
   refine wp_region_any hm (wpAny_of_W _ _ [] _ _ ?_)
   exact drawP_sound (Q:=post X N Q D) (fun _ _ _ hd hx=>⟨hd,hx⟩) (fun _ _ _ _ hd hx=>⟨hd.trans hx.1,hx.2⟩) hok (fun a ρ w hr hk=>⟨ρ,hr,hk⟩) _ _ _ _ _ _ (closed_none _) (fun γ hγ=>by cases hγ) hr h
 | seq x y ihx ihy =>
  refine ⟨?_,fun l b h=>by injection h with h1 h2;subst h2;exact ihy.1⟩
  intro Q ρ a w hok hr h
  simp only [codeOk,Bool.and_eq_true] at hok
  refine wp_seq (wp_mono (ihx.1 _ _ _ _ hok.1 hr h) fun e a' w' hq=>?_)
  cases e with
  | normal=>obtain ⟨ρ',hr',hq'⟩:=hq;exact ihy.1 _ _ _ _ hok.2 hr' hq'
  | panic ch=>exact hq
  | _=>exact hq
 | cond c x y ihx ihy =>
  refine ⟨?_,fun l b h=>by cases h⟩
  intro Q ρ a w hok hr h
  simp only [codeOk,Bool.and_eq_true] at hok
  obtain ⟨b,hb,hq⟩:=SPLITF_elim h
  refine wp_cond (t:=b) (by rw [hr.eval];exact hb) ?_
  cases b with
  | true=>exact ihx.1 _ _ _ _ hok.1 hr hq
  | false=>exact ihy.1 _ _ _ _ hok.2 hr hq
 | block id b ih =>
  refine ⟨?_,fun l b h=>by cases h⟩
  intro Q ρ a w hok hr h
  refine wp_block (wp_mono (ih.1 _ _ _ _ hok hr h) fun e a' w' hq=>?_)
  cases e with
  | exit k =>
   obtain ⟨ρ',hr',hq'⟩:=hq
   simp only [blockE] at hq'
   simp only [Exit.inBlock]
   by_cases hk:k=id
   ·subst hk
    rw [if_pos rfl]
    have:Nat.beq k k=true:=by simp
    rw [this] at hq'
    exact ⟨ρ',hr',hq'⟩
   ·rw [if_neg hk]
    have:Nat.beq k id=false:=by
     cases hh:Nat.beq k id with
     | false=>rfl
     | true=>exact absurd (Nat.eq_of_beq_eq_true hh) hk
    rw [this] at hq'
    exact ⟨ρ',hr',hq'⟩
  | panic ch=>exact hq
  | _=>exact hq
 | loop b ih =>
  refine ⟨?_,fun l b h=>by cases h⟩
  intro Q ρ a w hok hr h
  obtain ⟨I,μ,h0,hround⟩:=h
  refine wp_loop (fun a' w'=>∃ρ',Rel N a' ρ' D∧I ρ' w') (fun a' w'=>μ (fun n=>a'.tmps.getD n undef) w') ⟨ρ,hr,h0⟩ ?_
  rintro a' w' ⟨ρ',hr',hI⟩
  have hρ:∀{a:Act} {ρ:Env},Rel N a ρ D→(fun n=>a.tmps.getD n undef)=ρ:=fun h=>funext h.get
  refine wp_mono (ih.1 _ _ _ _ hok hr' (hround ρ' w' hI)) fun e a'' w'' hq=>?_
  cases e with
  | normal =>
   obtain ⟨ρ'',hr'',hI'',hlt⟩:=hq
   exact ⟨⟨ρ'',hr'',hI''⟩,by rw [hρ hr'',hρ hr'];exact hlt⟩
  | panic ch=>exact hq
  | _=>exact hq
 | goto l=>exact ⟨fun Q ρ a w _ hr h=>wp_goto ⟨ρ,hr,h⟩,fun l b h=>by cases h⟩
 | scope body ih =>
  refine ⟨fun Q ρ a w hok hr h=>?_,fun l b h=>by cases h⟩
  cases body with
  | seq x b =>
   cases x with
   | label l =>
    obtain ⟨I,μ,h0,hround⟩:=h
    refine wp_scope_round (fun a' w'=>∃ρ',Rel N a' ρ' D∧I ρ' w') (fun a' w'=>μ (fun n=>a'.tmps.getD n undef) w') ⟨ρ,hr,h0⟩ ?_
    rintro a' w' ⟨ρ',hr',hI⟩
    have hρ:∀{a:Act} {ρ:Env},Rel N a ρ D→(fun n=>a.tmps.getD n undef)=ρ:=fun h=>funext h.get
    refine wp_mono (ih.2 l b rfl _ _ _ _ hok hr' (hround ρ' w' hI)) fun e a'' w'' hq=>?_
    cases e with
    | goto k =>
     obtain ⟨ρ'',hr'',hq⟩:=hq
     simp only [gotoE] at hq
     cases hh:Nat.beq k l with
     | true =>
      rw [hh] at hq
      exact ⟨Nat.eq_of_beq_eq_true hh,⟨ρ'',hr'',hq.1⟩,by rw [hρ hr'',hρ hr'];exact hq.2⟩
     | false=>rw [hh] at hq;exact hq.elim
    | panic ch=>exact hq
    | _=>exact hq
   | _=>exact h.elim
  | _=>exact h.elim
 | _=>exact ⟨fun Q ρ a w _ _ h=>h.elim,fun l b h=>by cases h⟩

theorem codeP_sound {P:Program} {X:Pan} {N:Nat} {D:List Deferred} (hm:P.follows .mixedOrders=true) (c:Code) (Q:Exit→Env→World→Prop) (ρ:Env) (a:Act) (w:World) (hok:codeOk N c=true) (hr:Rel N a ρ D) (h:codeP P X c Q ρ w) :
  c.wp P (post X N Q D) a w:=(codeP_sound' hm c).1 Q ρ a w hok hr h

/-! ### Which slots a piece of code may write -/
def writesOps (ops:List Oper):List Nat:=ops.filterMap (·.dst)

def writes:Code→List Nat
 | .region _ ops _=>writesOps ops.toList
 | .seq a b=>writes a++writes b
 | .cond _ x y=>writes x++writes y
 | .block _ b=>writes b
 | .loop b=>writes b
 | .scope (.seq (.label _) b)=>writes b
 | _=>[]

def Agree (l:List Nat) (ρ ρ':Env):Prop:=∀n,n∉l→ρ' n=ρ n

theorem Agree.refl (l:List Nat) (ρ:Env):Agree l ρ ρ:=fun _ _=>rfl
theorem Agree.trans {l:List Nat} {a b c:Env} (h:Agree l a b) (k:Agree l b c):Agree l a c:=fun n hn=>(k n hn).trans (h n hn)
theorem Agree.sub {l l':List Nat} {a b:Env} (h:Agree l a b) (hs:∀n,n∈l→n∈l'):Agree l' a b:=fun n hn=>h n (fun hm=>hn (hs n hm))
theorem agree_upd {l:List Nat} (ρ:Env) {d:Option Tmp} (v:Value) (h:∀t,d=some t→t∈l):Agree l ρ (upd ρ d v):=by
 intro n hn
 cases d with
 | none=>rfl
 | some t =>
  simp only [upd]
  have:Nat.beq n t=false:=by
   cases hh:Nat.beq n t with
   | false=>rfl
   | true=>exact absurd (Nat.eq_of_beq_eq_true hh ▸ h t rfl) hn
  rw [this];rfl

theorem RUN_mono {P:Program} {X:Pan} {s:Sem Value} {w:World} {K K':Value→World→Prop} (h:RUN P X s w K) (hk:∀v w',K v w'→K' v w'):RUN P X s w K':=by
 unfold RUN at *;split <;> simp_all
theorem RUNU_mono {P:Program} {X:Pan} {s:Sem Unit} {w:World} {K K':World→Prop} (h:RUNU P X s w K) (hk:∀w',K w'→K' w'):RUNU P X s w K':=by
 unfold RUNU at *;split <;> simp_all
theorem RUNN_mono {P:Program} {X:Pan} {s:Sem Next} {w:World} {K K':Value→World→Prop} (h:RUNN P X s w K) (hk:∀v w',K v w'→K' v w'):RUNN P X s w K':=by
 unfold RUNN at *
 split at h
 ·exact hk _ _ h
 ·exact hk _ _ h
 ·exact h.mono fun e w'' he=>by cases e <;> first | exact hk _ _ he | exact he
 ·exact h.mono fun v w'' hv=>hk _ _ hv
 ·exact h
 ·exact h.elim
theorem CALLV_mono {P:Program} {X:Pan} {f:Value} {args:List Value} {w:World} {K K':Value→World→Prop} (h:CALLV P X f args w K) (hk:∀v w',K v w'→K' v w'):CALLV P X f args w K':=by
 unfold CALLV at *
 split at h
 ·unfold CALL at *;exact RUNN_mono h hk
 ·exact h.elim
theorem PICK_mono {c a b:Value} {K K':Value→Prop} (h:PICK c a b K) (hk:∀v,K v→K' v):PICK c a b K':=by
 unfold PICK at *
 split at h
 ·exact hk _ h
 ·exact h.elim
theorem NILC_mono {c:Value} {K K':Value→Prop} (h:NILC c K) (hk:∀v,K v→K' v):NILC c K':=by
 unfold NILC at *
 split at h <;> first | exact h.elim | exact hk _ h
theorem SPLITF_mono {v:Value} {F F':Bool→Prop} (h:SPLITF v F) (hk:∀b,F b→F' b):SPLITF v F':=by
 obtain ⟨b,rfl,hb⟩:=SPLITF_elim h
 cases b <;> exact hk _ hb
theorem GOK_mono {g:Value} {want:Bool} {A B A' B':Prop} (h:GOK g want A B) (ha:A→A') (hb:B→B'):GOK g want A' B':=by
 unfold GOK at *
 split at h
 ·exact ha h
 ·exact ha h
 ·exact hb h
theorem opP_mono {P:Program} {X:Pan} {op:Op} {ty:TypeId} {e:Operand→Value} {w:World} {K K':Value→World→Prop} (h:opP P X op ty e w K) (hk:∀v w',K v w'→K' v w'):opP P X op ty e w K':=by
 cases op with
 | move x=>exact hk _ _ h
 | assign x=>exact hk _ _ h
 | pick c a b=>exact PICK_mono (K:=fun v=>K v w) h fun v hv=>hk _ _ hv
 | nilCheck x=>exact NILC_mono (K:=fun v=>K v w) h fun v hv=>hk _ _ hv
 | box t x=>exact RUN_mono (P:=P) (X:=X) (s:=Instr.box t (e x)) h hk
 | makeFunc fn f c=>exact RUN_mono (P:=P) (X:=X) (s:=Instr.makeFunc fn (f.toList.map e).toArray (c.toList.map e).toArray) h hk
 | store t a x=>exact RUNU_mono h fun w' hw=>hk _ _ hw
 | mapUpdate t a x y=>exact RUNU_mono h fun w' hw=>hk _ _ hw
 | insert t a x y=>exact RUNU_mono h fun w' hw=>hk _ _ hw
 | entryStore t a x y=>exact RUNU_mono h fun w' hw=>hk _ _ hw
 | call c =>
  obtain ⟨callee,args,argTypes⟩:=c
  cases callee with
  | value f=>exact CALLV_mono h hk
  | invoke r m=>exact h
  | builtin b=>cases b <;> first | exact RUN_mono h hk | exact (h:False).elim
 | _=>first | exact RUN_mono h hk | exact (h:False).elim

theorem CALLY_mono {P:Program} {X:Pan} {f:Value} {args:List Value} {w:World} {K K':Value→World→Prop} (h:CALLY P X f args w K) (hk:∀v w',K v w'→K' v w'):CALLY P X f args w K':=by
 unfold CALLY at *
 split at h
 ·unfold CALL at *;exact RUNN_mono h hk
 ·obtain ⟨fn,tmps,assign,body,hrun,hr⟩:=h
  exact ⟨fn,tmps,assign,body,hrun,hr.mono fun e w' he=>by cases e <;> first | exact hk _ _ he | exact he⟩
 ·exact h.elim
theorem opQ_mono {P:Program} {X:Pan} {op:Op} {ty:TypeId} {e:Operand→Value} {w:World} {K K':Value→World→Prop} (h:opQ P X op ty e w K) (hk:∀v w',K v w'→K' v w'):opQ P X op ty e w K':=by
 unfold opQ at *
 split at h
 ·exact CALLY_mono h hk
 ·exact opP_mono h hk

theorem readP_mono {P:Program} {op:Op} {ty:TypeId} {e:Operand→Value} {w:World} {K K':Value→Option (World→Prop)→Prop} (h:readP P op ty e w K) (hk:∀v f,K v f→K' v f):readP P op ty e w K':=by
 have k1:∀{s:Sem Value},(PUR P s fun v=>K v none)→PUR P s fun v=>K' v none:=fun h=>let ⟨v,hv,h⟩:=PUR_elim h;PUR_intro v hv (hk _ _ h)
 have k2:∀{s:Sem Value},(LD P s w fun v=>K v (some fun w'=>s.run P w' = .ok v w'))→LD P s w fun v=>K' v (some fun w'=>s.run P w' = .ok v w'):=fun h=>let ⟨v,hv,h⟩:=LD_elim h;LD_intro v hv (hk _ _ h)
 cases op with
 | move x=>exact hk _ _ h
 | assign x=>exact hk _ _ h
 | pick c a b=>exact PICK_mono (K:=fun v=>K v none) h fun v hv=>hk _ _ hv
 | nilCheck x=>exact NILC_mono (K:=fun v=>K v none) h fun v hv=>hk _ _ hv
 | call c =>
  obtain ⟨callee,args,argTypes⟩:=c
  cases callee with
  | value f=>exact h.elim
  | invoke r m=>exact h.elim
  | builtin b=>cases b <;> first | exact k2 h | exact h.elim
 | _=>first | exact k1 h | exact k2 h | exact (h:False).elim

theorem opsP_mono {P:Program} {X:Pan} {ops:Array Oper} {l:List Nat} {K K':Env→World→Prop}:∀(os:List Oper) (k:Nat) (ρ:Env) (w:World),(∀o∈os,∀t,o.dst=some t→t∈l) →
  opsP P X ops k os ρ w K→(∀ρ' w',Agree l ρ ρ'→K ρ' w'→K' ρ' w')→opsP P X ops k os ρ w K':=by
 intro os
 induction os with
 | nil=>intro k ρ w _ h hk;exact hk _ _ (.refl _ _) h
 | cons o os ih =>
  intro k ρ w hin h hk
  have ho:=hin o (by simp)
  have hos:∀o∈os,∀t,o.dst=some t→t∈l:=fun o h=>hin o (by simp [h])
  have step:∀v w',opsP P X ops (k+1) os (upd ρ o.dst v) w' K→opsP P X ops (k+1) os (upd ρ o.dst v) w' K':=fun v w' hh =>
   ih _ _ _ hos hh fun ρ' w' ha hq=>hk _ _ ((agree_upd ρ v ho).trans ha) hq
  have run:(opQ P X o.op o.type (ev ρ) w fun v w'=>match isGuard ops k with
    | true=>SPLITF v fun b=>opsP P X ops (k+1) os (upd ρ o.dst (.bool b)) w' K
    | false=>opsP P X ops (k+1) os (upd ρ o.dst v) w' K)→(opQ P X o.op o.type (ev ρ) w fun v w'=>match isGuard ops k with
    | true=>SPLITF v fun b=>opsP P X ops (k+1) os (upd ρ o.dst (.bool b)) w' K'
    | false=>opsP P X ops (k+1) os (upd ρ o.dst v) w' K'):=fun hh=>opQ_mono hh fun v w' hv=>by
   split at hv
   ·exact SPLITF_mono hv fun b hb=>step _ _ hb
   ·exact step _ _ hv
  unfold opsP at h ⊢
  cases hg:o.guard with
  | none=>rw [hg] at h;exact run h
  | some g=>rw [hg] at h;exact GOK_mono h run (step _ _)

theorem HOLDS_mono:∀{Γ:Facts} {w:World} {B B':Prop},HOLDS Γ w B→(B→B')→HOLDS Γ w B'
 | [],_,_,_,h,hb=>hb h
 | _::_,_,_,_,h,hb=>⟨h.1,HOLDS_mono h.2 hb⟩

theorem ALLC_mono:∀{l:List Nat} {f g:Nat→Prop},ALLC l f→(∀i,f i→g i)→ALLC l g
 | [],_,_,_,_=>trivial
 | [_],_,_,h,hk=>hk _ h
 | _::_::_,_,_,h,hk=>⟨hk _ h.1,ALLC_mono h.2 hk⟩

theorem drawP_mono {P:Program} {X:Pan} {ops:Array Oper} {l:List Nat} {K K':Env→World→Prop} (hin:∀o∈ops.toList,∀t,o.dst=some t→t∈l):∀(n:Nat) (L:Array Bool) (Γ:Facts) (ρ:Env) (w:World),
  drawP P X ops n L Γ ρ w K→(∀ρ' w',Agree l ρ ρ'→K ρ' w'→K' ρ' w')→drawP P X ops n L Γ ρ w K':=by
 intro n
 induction n with
 | zero =>
  intro L Γ ρ w h hk
  unfold drawP at h ⊢
  split at h
  ·exact hk _ _ (.refl _ _) h
  ·exact h.elim
 | succ n ih =>
  intro L Γ ρ w h hk
  have step:∀{i:Nat} {o:Oper},ops.toList[i]?=some o→∀L Γ v w',drawP P X ops n L Γ (upd ρ o.dst v) w' K→drawP P X ops n L Γ (upd ρ o.dst v) w' K':=fun ho L Γ v w' hh =>
   ih _ _ _ _ hh fun ρ' w' ha hq=>hk _ _ ((agree_upd ρ v (hin _ (List.mem_of_getElem? ho))).trans ha) hq
  unfold drawP at h ⊢
  split at h
  ·rename_i i hfind
   cases ho:ops.toList[i]? with
   | none=>rw [ho] at h;exact h.elim
   | some o =>
    rw [ho] at h
    simp only at h ⊢
    have run:(readP P o.op o.type (ev ρ) w fun v f=>match isGuard ops i with
      | true=>SPLITF v fun b=>drawP P X ops n (L.setIfInBounds i true) (addF i f Γ) (upd ρ o.dst (.bool b)) w K
      | false=>drawP P X ops n (L.setIfInBounds i true) (addF i f Γ) (upd ρ o.dst v) w K)→(readP P o.op o.type (ev ρ) w fun v f=>match isGuard ops i with
      | true=>SPLITF v fun b=>drawP P X ops n (L.setIfInBounds i true) (addF i f Γ) (upd ρ o.dst (.bool b)) w K'
      | false=>drawP P X ops n (L.setIfInBounds i true) (addF i f Γ) (upd ρ o.dst v) w K'):=fun hh=>readP_mono hh fun v f hv=>by
     split at hv
     ·exact SPLITF_mono hv fun b hb=>step ho _ _ _ _ hb
     ·exact step ho _ _ _ _ hv
    cases hg:o.guard with
    | none=>rw [hg] at h;exact run h
    | some g=>rw [hg] at h;exact GOK_mono h run (step ho _ _ _ _)
  ·split at h
   ·exact hk _ _ (.refl _ _) h
   ·refine ALLC_mono h fun i hi=>?_
    cases ho:ops.toList[i]? with
    | none=>rw [ho] at hi;exact hi.elim
    | some o =>
     rw [ho] at hi
     simp only at hi ⊢
     have run:(opP P X o.op o.type (ev ρ) w fun v w' =>
      HOLDS (drop ops i Γ) w' (match isGuard ops i with
       | true=>SPLITF v fun b=>drawP P X ops n (L.setIfInBounds i true) (drop ops i Γ) (upd ρ o.dst (.bool b)) w' K
       | false=>drawP P X ops n (L.setIfInBounds i true) (drop ops i Γ) (upd ρ o.dst v) w' K))→(opP P X o.op o.type (ev ρ) w fun v w' =>
      HOLDS (drop ops i Γ) w' (match isGuard ops i with
       | true=>SPLITF v fun b=>drawP P X ops n (L.setIfInBounds i true) (drop ops i Γ) (upd ρ o.dst (.bool b)) w' K'
       | false=>drawP P X ops n (L.setIfInBounds i true) (drop ops i Γ) (upd ρ o.dst v) w' K')):=fun hh=>opP_mono hh fun v w' hv=>HOLDS_mono hv fun hv=>by
      split at hv
      ·exact SPLITF_mono hv fun b hb=>step ho _ _ _ _ hb
      ·exact step ho _ _ _ _ hv
     cases hg:o.guard with
     | none=>rw [hg] at hi;exact run hi
     | some g=>rw [hg] at hi;exact GOK_mono hi run (step ho _ _ _ _)

def Mon (P:Program) (X:Pan) (c:Code):Prop:=∀(Q Q':Exit→Env→World→Prop) (ρ:Env) (w:World),codeP P X c Q ρ w→(∀e ρ' w',Agree (writes c) ρ ρ'→Q e ρ' w'→Q' e ρ' w')→codeP P X c Q' ρ w

theorem codeP_mono' {P:Program} {X:Pan}:∀(c:Code),Mon P X c∧∀l b,c = .seq (.label l) b→Mon P X b:=by
 intro c
 induction c with
 | skip =>
  refine ⟨?_,fun l b h=>by cases h⟩
  intro Q Q' ρ w h hk;exact hk _ _ _ (.refl _ _) h
 | label l =>
  refine ⟨?_,fun l b h=>by cases h⟩
  intro Q Q' ρ w h hk;exact hk _ _ _ (.refl _ _) h
 | exit id =>
  refine ⟨?_,fun l b h=>by cases h⟩
  intro Q Q' ρ w h hk;exact hk _ _ _ (.refl _ _) h
 | ret =>
  refine ⟨?_,fun l b h=>by cases h⟩
  intro Q Q' ρ w h hk;exact hk _ _ _ (.refl _ _) h
 | region id ops d =>
  refine ⟨?_,fun l b h=>by cases h⟩
  intro Q Q' ρ w h hk
  have hin:∀o∈ops.toList,∀t,o.dst=some t→t∈writes (.region id ops d):=fun o ho t ht=>List.mem_filterMap.2 ⟨o,ho,ht⟩
  cases d with
  | false=>exact opsP_mono _ _ _ _ hin h fun ρ' w' ha hq=>hk _ _ _ ha hq
  | true=>exact drawP_mono hin _ _ _ _ _ h fun ρ' w' ha hq=>hk _ _ _ ha hq
 | seq x y ihx ihy =>
  refine ⟨?_,fun l b h=>by injection h with h1 h2;subst h2;exact ihy.1⟩
  intro Q Q' ρ w h hk
  refine ihx.1 _ _ _ _ h fun e ρ' w' ha hq=>?_
  have hl:Agree (writes (.seq x y)) ρ ρ':=ha.sub fun n hn=>List.mem_append_left _ hn
  cases e with
  | normal=>exact ihy.1 _ _ _ _ hq fun e ρ'' w'' hb hq=>hk _ _ _ (hl.trans (hb.sub fun n hn=>List.mem_append_right _ hn)) hq
  | _=>exact hk _ _ _ hl hq
 | cond c x y ihx ihy =>
  refine ⟨?_,fun l b h=>by cases h⟩
  intro Q Q' ρ w h hk
  refine SPLITF_mono h fun b hb=>?_
  cases b with
  | true=>exact ihx.1 _ _ _ _ hb fun e ρ' w' ha hq=>hk _ _ _ (ha.sub fun n hn=>List.mem_append_left _ hn) hq
  | false=>exact ihy.1 _ _ _ _ hb fun e ρ' w' ha hq=>hk _ _ _ (ha.sub fun n hn=>List.mem_append_right _ hn) hq
 | block id b ih =>
  refine ⟨?_,fun l b h=>by cases h⟩
  intro Q Q' ρ w h hk
  refine ih.1 _ _ _ _ h fun e ρ' w' ha hq=>?_
  cases e with
  | exit k =>
   simp only [blockE] at hq ⊢
   cases hh:Nat.beq k id <;> rw [hh] at hq <;> exact hk _ _ _ ha hq
  | _=>exact hk _ _ _ ha hq
 | loop b ih =>
  refine ⟨?_,fun l b h=>by cases h⟩
  intro Q Q' ρ w h hk
  obtain ⟨I,μ,h0,hr⟩:=h
  refine ⟨fun ρ' w'=>I ρ' w'∧Agree (writes b) ρ ρ',μ,⟨h0,.refl _ _⟩,fun ρ' w' ⟨hI,hA⟩=>?_⟩
  refine ih.1 _ _ _ _ (hr ρ' w' hI) fun e ρ'' w'' ha hq=>?_
  cases e with
  | normal=>exact ⟨⟨hq.1,hA.trans ha⟩,hq.2⟩
  | _=>exact hk _ _ _ (hA.trans ha) hq
 | goto l=>exact ⟨fun Q Q' ρ w h hk=>hk _ _ _ (.refl _ _) h,fun l b h=>by cases h⟩
 | scope body ih =>
  refine ⟨fun Q Q' ρ w h hk=>?_,fun l b h=>by cases h⟩
  cases body with
  | seq x b =>
   cases x with
   | label l =>
    obtain ⟨I,μ,h0,hr⟩:=h
    refine ⟨fun ρ' w'=>I ρ' w'∧Agree (writes b) ρ ρ',μ,⟨h0,.refl _ _⟩,fun ρ' w' ⟨hI,hA⟩=>?_⟩
    refine ih.2 l b rfl _ _ _ _ (hr ρ' w' hI) fun e ρ'' w'' ha hq=>?_
    cases e with
    | goto k =>
     simp only [gotoE] at hq ⊢
     cases hh:Nat.beq k l with
     | true=>rw [hh] at hq;exact ⟨⟨hq.1,hA.trans ha⟩,hq.2⟩
     | false=>rw [hh] at hq;exact hq
    | _=>exact hk _ _ _ (hA.trans ha) hq
   | _=>exact h.elim
  | _=>exact h.elim
 | _=>exact ⟨fun Q Q' ρ w h _=>h.elim,fun l b h=>by cases h⟩

theorem codeP_mono {P:Program} {X:Pan} (c:Code) (Q Q':Exit→Env→World→Prop) (ρ:Env) (w:World) (h:codeP P X c Q ρ w) (hk:∀e ρ' w',Agree (writes c) ρ ρ'→Q e ρ' w'→Q' e ρ' w'):codeP P X c Q' ρ w :=
 (codeP_mono' c).1 Q Q' ρ w h hk

/-! ### What the printed texts go by -/
def look (l:List (Nat×(Env→World→Prop))) (id:Nat):Env→World→Prop :=
 match l with
 | []=>fun _ _=>False
 | (k,q)::l=>cond (Nat.beq k id) q (look l id)

/-- The posts by exit: behind the end; at a return; at each block that may be left. -/
def QX (n r:Env→World→Prop) (l:List (Nat×(Env→World→Prop))):Exit→Env→World→Prop
 | .normal=>n
 | .ret=>r
 | .exit id=>look l (2*id)
 | .goto k=>look l (2*k+1)
 | _=>fun _ _=>False

theorem beq_ne {a b:Nat} (h:a≠b):Nat.beq a b=false:=by
 cases h3:Nat.beq a b with
 | false=>rfl
 | true=>exact absurd (Nat.eq_of_beq_eq_true h3) h

section
variable {P:Program} {X:Pan} {ρ:Env} {w:World} {n r:Env→World→Prop} {l:List (Nat×(Env→World→Prop))}

theorem seqQ {x y:Code} (K:Env→World→Prop) (h:codeP P X x (QX K r l) ρ w) (hy:∀ρ w,K ρ w→codeP P X y (QX n r l) ρ w):codeP P X (.seq x y) (QX n r l) ρ w:=by
 unfold codeP
 exact codeP_mono x _ _ _ _ h fun e ρ' w' _ hq=>by cases e <;> first | exact hy _ _ hq | exact hq

theorem blockQ {id:Nat} {b:Code} (h:codeP P X b (QX n r ((2*id,n)::l)) ρ w):codeP P X (.block id b) (QX n r l) ρ w:=by
 unfold codeP
 refine codeP_mono b _ _ _ _ h fun e ρ' w' _ hq=>?_
 cases e with
 | exit k =>
  simp only [QX,look,blockE] at hq ⊢
  by_cases hk:k=id
  ·subst hk
   have h1:Nat.beq (2*k) (2*k)=true:=by simp
   have h2:Nat.beq k k=true:=by simp
   rw [h1] at hq
   rw [h2]
   exact hq
  ·rw [beq_ne (show 2*id≠2*k by omega)] at hq
   rw [beq_ne hk]
   exact hq
 | goto k =>
  simp only [QX,look] at hq
  rw [beq_ne (show 2*id≠2*k+1 by omega)] at hq
  exact hq
 | _=>exact hq

theorem loopQ {b:Code} (I:Env→World→Prop) (μ:Env→World→Nat) (h0:I ρ w)
  (hr:∀ρ' w',Agree (writes b) ρ ρ'→I ρ' w'→codeP P X b (QX (fun ρ'' w''=>I ρ'' w''∧μ ρ'' w''<μ ρ' w') r l) ρ' w'):codeP P X (.loop b) (QX n r l) ρ w:=by
 refine ⟨fun ρ' w'=>I ρ' w'∧Agree (writes b) ρ ρ',μ,⟨h0,.refl _ _⟩,fun ρ' w' ⟨hI,hA⟩=>?_⟩
 refine codeP_mono _ _ _ _ _ (hr ρ' w' hA hI) fun e ρ'' w'' ha hq=>?_
 cases e with
 | normal=>exact ⟨⟨hq.1,hA.trans ha⟩,hq.2⟩
 | _=>exact hq

theorem condQ {c:Operand} {x y:Code} {b:Bool} (hb:ev ρ c = .bool b) (hx:b=true→codeP P X x (QX n r l) ρ w) (hy:b=false→codeP P X y (QX n r l) ρ w):codeP P X (.cond c x y) (QX n r l) ρ w:=by
 unfold codeP
 rw [hb]
 cases b with
 | true=>exact hx rfl
 | false=>exact hy rfl
end

theorem condQ' {P:Program} {X:Pan} {ρ:Env} {w:World} {n r:Env→World→Prop} {l:List (Nat×(Env→World→Prop))} {c:Operand} {x y:Code} {A B:Prop} (h:SPLITF (ev ρ c) fun b=>cond b A B)
  (hx:A→codeP P X x (QX n r l) ρ w) (hy:B→codeP P X y (QX n r l) ρ w):codeP P X (.cond c x y) (QX n r l) ρ w:=by
 obtain ⟨b,hb,hq⟩:=SPLITF_elim h
 refine condQ hb (fun h=>hx (by rw [h] at hq;exact hq)) (fun h=>hy (by rw [h] at hq;exact hq))

/-! ### Pieces of code by their place -/
def bodyOf (f:Func):Code:=match f.body with | some c=>c | none => .skip
def fstC:Code→Code | .seq a _=>a | c=>c
def sndC:Code→Code | .seq _ b=>b | c=>c
def thnC:Code→Code | .cond _ a _=>a | c=>c
def elsC:Code→Code | .cond _ _ b=>b | c=>c
def blkC:Code→Code | .block _ a=>a | c=>c
def loopC:Code→Code | .loop a=>a | c=>c
/-- The first n + 1 statements. -/
def preC:Nat→Code→Code
 | 0,.seq a _=>a
 | n+1,.seq a b => .seq a (preC n b)
 | _,c=>c
/-- What stands behind the first n statements. -/
def dropC:Nat→Code→Code
 | 0,c=>c
 | n+1,.seq _ b=>dropC n b
 | _,c=>c
def appC:Nat→Code→Code→Code
 | n+1,.seq a b,d => .seq a (appC n b d)
 | _,c,d => .seq c d

theorem appQ {P:Program} {X:Pan} {n r:Env→World→Prop} {l:List (Nat×(Env→World→Prop))} {d:Code} (K:Env→World→Prop):∀(k:Nat) {c:Code} {ρ:Env} {w:World},codeP P X c (QX K r l) ρ w →
  (∀ρ w,K ρ w→codeP P X d (QX n r l) ρ w)→codeP P X (appC k c d) (QX n r l) ρ w:=by
 intro k
 induction k with
 | zero=>intro c ρ w h hd;unfold appC;exact seqQ K h hd
 | succ k ih =>
  intro c ρ w h hd
  cases c with
  | seq a b =>
   unfold appC codeP
   unfold codeP at h
   exact codeP_mono a _ _ _ _ h fun e ρ' w' _ hq=>by cases e <;> first | exact ih hq hd | exact hq
  | _=>exact seqQ K h hd

theorem notElem {n:Nat} {l:List Nat} (h:l.elem n=false):n∉l:=fun hm=>by
 rw [List.elem_eq_true_of_mem hm] at h;cases h

theorem Agree.at {l:List Nat} {ρ ρ':Env} (h:Agree l ρ ρ') (n:Nat) (hn:l.elem n=false):ρ' n=ρ n:=h n (notElem hn)

def pan (R:Ending→World→Prop):Pan:=fun ch w=>R (.panicked ch) w

/-- A call of function 'f' comes to its body. -/
def Enters (P:Program) (f:FuncId):Prop:=∀args w,(callFunc f args).run P w = .ok (.enter f args) w

/-- From the slots to the call. -/
theorem calls_of {P:Program} {f:FuncId} {fn:Func} {c:Code} (hm:P.follows .mixedOrders=true) (hf:P.funcs[f]?=some fn) (hb:fn.body=some c) (hok:codeOk fn.ntmps c=true)
  {args:List Value} (hargs:args.length≤fn.ntmps) {w:World} {R:Ending→World→Prop} (K:Env→World→Prop)
  (hres:∀a ρ w,Rel fn.ntmps a ρ→K ρ w→∃v,(results fn a.tmps).run P w = .ok v w∧R (.returned v) w)
  (h:codeP P (pan R) c (QX K K []) (envOf args) w) :
  Calls P f args.toArray w R:=by
 refine calls_of_wp hf hb (wp_mono (codeP_sound (D:=[]) hm c _ _ _ w hok ?_ h) fun e a w' hq=>?_)
 ·refine ⟨by simp;omega,fun n=>?_,rfl⟩
  simp only [envOf,Array.getD_eq_getD_getElem?,List.getD_eq_getElem?_getD,Array.getElem?_append,List.size_toArray,List.getElem?_toArray,Array.getElem?_replicate]
  by_cases hn:n<args.length
  ·rw [if_pos hn]
  ·rw [if_neg hn,List.getElem?_eq_none (by omega)]
   split <;> rfl
 ·cases e with
  | panic ch=>exact hq
  | normal =>
   obtain ⟨ρ,hr,hK⟩:=hq
   exact ⟨hr.defers,hres _ _ _ hr hK⟩
  | ret =>
   obtain ⟨ρ,hr,hK⟩:=hq
   exact ⟨hr.defers,hres _ _ _ hr hK⟩
  | exit id=>obtain ⟨ρ,hr,hq⟩:=hq;exact hq.elim
  | goto id=>obtain ⟨ρ,hr,hq⟩:=hq;exact hq.elim
  | outgrown=>obtain ⟨ρ,hr,hq⟩:=hq;exact hq.elim

theorem load_at {P:Program} {tmps:Array Value} {a t:Nat} {w:World} {v:Value} (h:(Instr.loadAt t (tmps.getD a undef)).run P w = .ok v w) :
  ∃p,tmps[a]?.getD undef = .pointer (some p)∧(loadVar t p).run P w = .ok v w:=by
 rw [Array.getD_eq_getD_getElem?] at h
 unfold Instr.loadAt Instr.sureAddr at h
 cases hx:tmps[a]?.getD undef with
 | pointer p =>
  rw [hx] at h
  cases p with
  | none=>simp [Sem.run_bind,stuck] at h
  | some p=>exact ⟨p,rfl,by simpa [Sem.run_bind] using h⟩
 | _=>rw [hx] at h;simp [Sem.run_bind,stuck] at h

section
variable {P:Program} {f:FuncId} {fn:Func} {c:Code} (hm:P.follows .mixedOrders=true) (hf:P.funcs[f]?=some fn) (hb:fn.body=some c) (hok:codeOk fn.ntmps c=true)
 {args:List Value} (hargs:args.length≤fn.ntmps) {w:World} {R:Ending→World→Prop}
 include hm hf hb hok hargs

theorem calls_of_t {t:Nat} (hr:fn.results=#[.tmp t]) (h:codeP P (pan R) c (QX (fun ρ w=>R (.returned (ρ t)) w) (fun ρ w=>R (.returned (ρ t)) w) []) (envOf args) w):Calls P f args.toArray w R :=
 calls_of hm hf hb hok hargs _ (fun a ρ w hrel hR=>⟨_,results_tmp hr _ _ _,by rw [hrel.get];exact hR⟩) h
theorem calls_of_tt {t u:Nat} (hr:fn.results=#[.tmp t,.tmp u]) (h:codeP P (pan R) c (QX (fun ρ w=>R (.returned (.tuple #[ρ t,ρ u])) w) (fun ρ w=>R (.returned (.tuple #[ρ t,ρ u])) w) []) (envOf args) w):Calls P f args.toArray w R :=
 calls_of hm hf hb hok hargs _ (fun a ρ w hrel hR=>⟨_,results_tmp2 hr _ _ _,by rw [hrel.get,hrel.get];exact hR⟩) h

theorem calls_of_ct {a0 t0 u1:Nat} (hr:fn.results=#[.cell a0 t0,.tmp u1]) (h:codeP P (pan R) c (QX (fun ρ w=>LD P (Instr.loadAt t0 (ρ a0)) w fun r0=>R (.returned (.tuple #[r0,ρ u1])) w) (fun ρ w=>LD P (Instr.loadAt t0 (ρ a0)) w fun r0=>R (.returned (.tuple #[r0,ρ u1])) w) []) (envOf args) w):Calls P f args.toArray w R :=
 calls_of hm hf hb hok hargs _ (fun a ρ w hrel hR=>by
  obtain ⟨r0,h0,hR⟩:=LD_elim hR
  rw [←hrel.get] at h0
  obtain ⟨p0,q0,k0⟩:=load_at h0
  refine ⟨.tuple #[r0,ρ u1],?_,hR⟩
  simp only [←hrel.get]
  simp [results,hr,asAddr,k0,q0]) h
end
end Go.Px

/-
  Words for proofs over the shallow programs: contracts, calls, tests; data in memory.
-/
namespace Go.Px
open Go.RowKit

/-! ### Contracts -/
def RT (S:Value→World→Prop):Ending→World→Prop
 | .returned v,w=>S v w
 | _,_=>False

theorem RT_ret (S:Value→World→Prop) (v:Value) (w:World):RT S (.returned v) w=S v w:=rfl

/-- A call of 'f' comes to its body and returns with 'S'. -/
def Ct (P:Program) (f:FuncId) (args:Array Value) (w:World) (S:Value→World→Prop):Prop:=Enters P f∧Calls P f args w (RT S)

theorem Ct.mono {P:Program} {f:FuncId} {args:Array Value} {w:World} {S S':Value→World→Prop} (h:Ct P f args w S) (hs:∀v w',S v w'→S' v w'):Ct P f args w S' :=
 ⟨h.1,h.2.mono fun e w' he=>by cases e <;> first | exact hs _ _ he | exact he⟩

theorem Ct.intro {P:Program} {f:FuncId} {args:Array Value} {w:World} {S:Value→World→Prop} (he:Enters P f) (h:∀R:Ending→World→Prop,(∀v w',S v w'→R (.returned v) w')→Calls P f args w R):Ct P f args w S :=
 ⟨he,h (RT S) fun _ _ hs=>hs⟩

theorem CALL_of {P:Program} {X:Pan} {f:FuncId} {args:Array Value} {w:World} {K S:Value→World→Prop} (h:Ct P f args w S) (hk:∀v w',S v w'→K v w'):CALL P X f args w K:=by
 unfold CALL RUNN
 rw [h.1 args w]
 exact h.2.mono fun e w' he=>by cases e <;> first | exact hk _ _ he | exact he.elim

/-- A contract with endings: a call may panic. -/
def CtE (P:Program) (f:FuncId) (args:Array Value) (w:World) (S:Ending→World→Prop):Prop:=Enters P f∧Calls P f args w S

theorem CtE.mono {P:Program} {f:FuncId} {args:Array Value} {w:World} {S S':Ending→World→Prop} (h:CtE P f args w S) (hs:∀e w',S e w'→S' e w'):CtE P f args w S':=⟨h.1,h.2.mono hs⟩

theorem CtE.intro {P:Program} {f:FuncId} {args:Array Value} {w:World} {S:Ending→World→Prop} (he:Enters P f) (h:∀R:Ending→World→Prop,(∀e w',S e w'→R e w')→Calls P f args w R):CtE P f args w S :=
 ⟨he,h S fun _ _ hs=>hs⟩

theorem CALLY_of {P:Program} {X:Pan} {g:FuncId} {first cap:Array Value} {args:List Value} {w:World} {K S:Value→World→Prop} (h:Ct P g (first.toList++args++cap.toList).toArray w S) (hk:∀v w',S v w'→K v w') :
  CALLY P X (.func (.func g) first cap) args w K:=CALL_of h hk

theorem SPL_intro {p:Bool} {A B:Prop} (ha:p=true→A) (hb:p=false→B):SPL (.bool p) A B:=by
 cases p
 ·exact hb rfl
 ·exact ha rfl

/-! ### How simp goes through a piece: from the left, never below the binder of what follows -/
section
variable {P:Program} {X:Pan} {w w':World} {v v' a b:Value} {A B:Prop}
theorem SPL_true:SPL (.bool true) A B=A:=rfl
theorem SPL_false:SPL (.bool false) A B=B:=rfl
theorem PICK_bool {t:Bool} {K:Value→Prop}:PICK (.bool t) a b K=K (cond t a b):=rfl
theorem NILC_some {p:Addr} {K:Value→Prop}:NILC (.pointer (some p)) K=K (.pointer (some p)):=rfl

end

def RES (X:Pan) (r:Result Value) (K:Value→World→Prop) (_x:Tok X:=tok X) (_k:Tok K:=tok K):Prop :=
 match r with
 | .ok v w'=>K v w'
 | .halt (.panic v) w'=>X [{v,recovered:=false }] w'
 | _=>False
def RESU (X:Pan) (r:Result Unit) (K:World→Prop) (_x:Tok X:=tok X) (_k:Tok K:=tok K):Prop :=
 match r with
 | .ok _ w'=>K w'
 | .halt (.panic v) w'=>X [{v,recovered:=false }] w'
 | _=>False
def RESL (w:World) (r:Result Value) (K:Value→Prop) (_k:Tok K:=tok K):Prop:=∃v,r = .ok v w∧K v
def RESP (f:World→Result Value) (K:Value→Prop) (_k:Tok K:=tok K):Prop:=∃v,(∀w,f w = .ok v w)∧K v

section
variable {P:Program} {X:Pan} {w w':World} {v:Value}
theorem RUN_eq {s:Sem Value} {K:Value→World→Prop}:RUN P X s w K=RES X (s.run P w) K:=by unfold RUN RES;rfl
theorem RUNU_eq {s:Sem Unit} {K:World→Prop}:RUNU P X s w K=RESU X (s.run P w) K:=by unfold RUNU RESU;rfl
theorem LD_eq {s:Sem Value} {K:Value→Prop}:LD P s w K=RESL w (s.run P w) K:=by unfold LD RESL;rfl
theorem PUR_eq {s:Sem Value} {K:Value→Prop}:PUR P s K=RESP (fun w=>s.run P w) K:=by unfold PUR RESP;rfl
theorem RES_ok {K:Value→World→Prop}:RES X (.ok v w) K=K v w:=rfl
theorem RESU_ok {u:Unit} {K:World→Prop}:RESU X (.ok u w) K=K w:=rfl
theorem RESL_ok {K:Value→Prop}:RESL w (.ok v w) K=K v:=by
 apply propext
 constructor
 ·rintro ⟨v',h,hk⟩;injection h with h1;subst h1;exact hk
 ·exact fun hk=>⟨v,rfl,hk⟩
theorem RESP_ok {K:Value→Prop}:RESP (fun w => .ok v w) K=K v:=by
 apply propext
 constructor
 ·rintro ⟨v',h,hk⟩;have:=h default;injection this with h1;subst h1;exact hk
 ·exact fun hk=>⟨v,fun _=>rfl,hk⟩
end

attribute [irreducible] RES RESU RESL RESP
attribute [go_sem ↓] RUN_eq RUNU_eq LD_eq PUR_eq
attribute [go_sem] IntWalk.i64_in IntWalk.u8_in IntWalk.i32_in
attribute [go_sem] RES_ok RESU_ok RESL_ok RESP_ok bins SPL_true SPL_false PICK_bool NILC_some RT_ret

abbrev EP:=Ending→World→Prop
abbrev VP:=Value→World→Prop
abbrev XP:=Exit→Env→World→Prop
end Go.Px
