/-
  Texts of this claim: PxBase, PxRegion, PxCode, PxUser, PxData, PxRow, PxMore, PxOwn, PxMap, PxOpen, PxSt, PxTxt, PxLend.
-/
import Derived.WalkKit
import Derived.Deep.Quiet
import Derived.RangeFuncFrom
import Derived.RangeFuncCalls
import Derived.TacticsIn
import Derived.Still
import Derived.Scope
import Derived.Below
import Derived.OwnWalk
import Derived.ProofKit
import Derived.OpenShut
import Derived.Lib.Bytealg
import Derived.Lib.Strings
import Derived.Laws.DeepStrings4
import Derived.Maps.AppendAt
import Derived.Maps.OwnSet
import Derived.Maps.Views
import Derived.StringKeys
import Derived.SliceStrings
import Derived.WalkSmall
import Derived.Lib.FrozenHead2
import Derived.Laws.IdiomStrings
import Derived.Laws.OwnMore
/-
  A way of reading the model's code as a predicate over named slots: 'codeP', proved sound once against 'Code.wp'.
  No program is in sight here.
-/
namespace Go.Px

/-! ### Slots -/
abbrev Env := Nat → Value

def upd (ρ : Env) : Option Tmp → Value → Env
  | none, _ => ρ
  | some d, v => fun n => cond (Nat.beq n d) v (ρ n)

def ev (ρ : Env) : Operand → Value
  | .tmp t => ρ t
  | .const v => v
  | .global g => .pointer (some ⟨g, 0, none⟩)
  | .func f => .func (.func f) #[] #[]

def envOf (l : List Value) : Env := fun n => l.getD n undef

/-- The frame 'a' of 'N' slots holds what 'ρ' says. -/
structure Rel (N : Nat) (a : Act) (ρ : Env) : Prop where
  size : a.tmps.size = N
  get : ∀ n, a.tmps.getD n undef = ρ n
  defers : a.defers = []

theorem Rel.eval {N : Nat} {a : Act} {ρ : Env} (h : Rel N a ρ) : a.eval = ev ρ := by
  funext x
  cases x with
  | tmp t => exact h.get t
  | _ => rfl

def dstIn (N : Nat) : Option Tmp → Bool
  | none => true
  | some d => Nat.blt d N

theorem Rel.put {N : Nat} {a : Act} {ρ : Env} (h : Rel N a ρ) {d : Option Tmp} (hd : dstIn N d = true) (v : Value) : Rel N (a.put d v) (upd ρ d v) := by
  cases d with
  | none => exact h
  | some d =>
    have hd' : d < N := by simpa [dstIn, Nat.blt_eq] using hd
    refine ⟨by simp [Act.put, h.size], fun n => ?_, h.defers⟩
    have hg := h.get n
    simp only [Act.put, upd]
    by_cases hn : n = d
    · subst hn
      simp [h.size, hd']
    · have : (Nat.beq n d) = false := by
        cases h : Nat.beq n d with
        | false => rfl
        | true => exact absurd (Nat.eq_of_beq_eq_true h) hn
      rw [this]
      simp only [cond_false]
      rw [← hg]
      simp only [Array.getD_eq_getD_getElem?]
      rw [Array.getElem?_setIfInBounds_ne (by omega)]

/-! ### Operations. ('Tok': what stands under it is not gone into by simp.) -/
def Tok {α : Sort _} (_ : α) : Type := Unit
def tok {α : Sort _} (a : α) : Tok a := ()
abbrev Pan := List PanicEntry → World → Prop

def RUN (P : Program) (X : Pan) (s : Sem Value) (w : World) (K : Value → World → Prop) (_x : Tok X := tok X) (_k : Tok K := tok K) : Prop :=
  match s.run P w with
  | .ok v w' => K v w'
  | .halt (.panic v) w' => X [{ v, recovered := false }] w'
  | _ => False

def RUNU (P : Program) (X : Pan) (s : Sem Unit) (w : World) (K : World → Prop) (_x : Tok X := tok X) (_k : Tok K := tok K) : Prop :=
  match s.run P w with
  | .ok _ w' => K w'
  | .halt (.panic v) w' => X [{ v, recovered := false }] w'
  | _ => False

def RUNN (P : Program) (X : Pan) (s : Sem Next) (w : World) (K : Value → World → Prop) : Prop :=
  match s.run P w with
  | .ok (.value v) w' => K v w'
  | .ok .skip w' => K undef w'
  | .ok (.enter f args) w' => Calls P f args w' fun
      | .returned v, w'' => K v w''
      | .panicked ch, w'' => X ch w''
      | .outgrown, _ => False
  | .ok (.row row args) w' => Rows P row args w' K
  | .halt (.panic v) w' => X [{ v, recovered := false }] w'
  | _ => False

def CALL (P : Program) (X : Pan) (f : FuncId) (args : Array Value) (w : World) (K : Value → World → Prop) (_x : Tok X := tok X) (_k : Tok K := tok K) : Prop := RUNN P X (callFunc f args) w K

def CALLV (P : Program) (X : Pan) (f : Value) (args : List Value) (w : World) (K : Value → World → Prop) (_x : Tok X := tok X) (_k : Tok K := tok K) : Prop :=
  match f with
  | .func (.func g) first cap => CALL P X g (first.toList ++ args ++ cap.toList).toArray w K
  | _ => False

/-- A call of yield: a round of the loop over this iterator. -/
def YIELD (P : Program) (X : Pan) (l : Nat) (args : Array Value) (w : World) (K : Value → World → Prop) (_x : Tok X := tok X) (_k : Tok K := tok K) : Prop :=
  YieldAt Fence.wide 0 P l args w fun
    | .returned v, w' => K v w'
    | .panicked ch, w' => X ch w'
    | .outgrown, _ => False

/-- A call of a function value that may be a loop's body. -/
def CALLY (P : Program) (X : Pan) (f : Value) (args : List Value) (w : World) (K : Value → World → Prop) (_x : Tok X := tok X) (_k : Tok K := tok K) : Prop :=
  match f with
  | .func (.func g) first cap => CALL P X g (first.toList ++ args ++ cap.toList).toArray w K
  | .func (.yield l) first _ => YIELD P X l (first.toList ++ args).toArray w K
  | _ => False

def PICK (c a b : Value) (K : Value → Prop) (_k : Tok K := tok K) : Prop :=
  match c with
  | .bool t => K (cond t a b)
  | _ => False

def NILC (v : Value) (K : Value → Prop) (_k : Tok K := tok K) : Prop :=
  match v with
  | .pointer none | .nilIface | .nilFunc => False
  | .func (.method _) _ _ => False
  | v => K v

def SPL (v : Value) (A B : Prop) (_a : Tok A := tok A) (_b : Tok B := tok B) : Prop :=
  match v with
  | .bool true => A
  | .bool false => B
  | _ => False

def SPLITF (v : Value) (F : Bool → Prop) : Prop := SPL v (F true) (F false)

def bins (op : BinOp) (t : TypeId) (x y : Operand) (a b : Value) : Sem Value := do eqGuard op t x y a b; binOp op t a b

inductive RK where
  | pure | load | eff

def rkind : Op → RK
  | .move _ | .assign _ | .pick .. | .nilCheck _ | .fieldAddr .. | .indexAddr .. | .binOp .. | .unOp .. | .extract .. | .field .. | .index .. | .slice .. | .build .. | .makeFunc .. | .makeInterface .. => .pure
  | .load .. | .lookup .. | .convert .. => .load
  | .call { callee := .builtin .len, .. } | .call { callee := .builtin .cap, .. } => .load
  | _ => .eff

/-- The operations that yield a value by one run of their own. -/
def semOf (op : Op) (ty : TypeId) (e : Operand → Value) : Option (Sem Value) :=
  match op with
  | .alloc t => some (Instr.alloc t true (.tuple #[]))
  | .box t x => some (Instr.box t (e x))
  | .build t parts => some (Instr.build t (parts.toList.map fun p => (p.1, e p.2)).toArray)
  | .buildSlice t len parts => some (Instr.buildSlice t len (parts.toList.map fun p => (p.1, e p.2)).toArray)
  | .load t a => some (Instr.loadAt t (e a))
  | .binOp op t x y _ => some (bins op t x y (e x) (e y))
  | .unOp op _ x => some (Op.unary op (e x))
  | .convert s d x => some (convert s d (e x))
  | .makeInterface t x => some (Instr.makeInterface t (e x))
  | .makeFunc fn first cap => some (Instr.makeFunc fn (first.toList.map e).toArray (cap.toList.map e).toArray)
  | .makeMap t r => some (Instr.makeMap t (r.map e))
  | .makeSlice t l c => some (Instr.makeSlice t (e l) (e c))
  | .slice t x lo hi mx => some (Instr.sliceAt t (e x) (lo.map e) (hi.map e) (mx.map e))
  | .fieldAddr s x f => some (Instr.fieldAt s (e x) f)
  | .field t x f => some (Instr.field t (e x) f)
  | .indexAddr t x i => some (Instr.indexAt t (e x) (e i))
  | .index t x i => some (Instr.index t (e x) (e i))
  | .lookup t x i ok => some (Instr.lookup t (e x) (e i) ok)
  | .mapEntry t m k => some (Instr.mapEntry t (e m) (e k))
  | .range t x => some (Instr.range t (e x))
  | .next it s => some (Instr.next (e it) s ty)
  | .entry it => some (Instr.entry (e it))
  | .typeAssert x t u ok => some (Instr.typeAssert (e x) t u ok)
  | .extract t i => some (Instr.extract (e t) i)
  | .panic x => some (Instr.panic (e x))
  | .call c =>
    match c.callee with
    | .builtin .append => some (Builtin.append_ c.argTypes ty (c.args.toList.map e).toArray)
    | .builtin .len => some (Builtin.len_ c.argTypes ty (c.args.toList.map e).toArray)
    | .builtin .cap => some (Builtin.cap_ c.argTypes ty (c.args.toList.map e).toArray)
    | .builtin .copy => some (Builtin.copy_ c.argTypes ty (c.args.toList.map e).toArray)
    | .builtin .delete => some (Builtin.delete_ c.argTypes ty (c.args.toList.map e).toArray)
    | .builtin .clear => some (Builtin.clear_ c.argTypes ty (c.args.toList.map e).toArray)
    | .builtin .min => some (Builtin.min_ c.argTypes ty (c.args.toList.map e).toArray)
    | .builtin .max => some (Builtin.max_ c.argTypes ty (c.args.toList.map e).toArray)
    | .builtin .unsafeString => some (Builtin.unsafeString_ c.argTypes ty (c.args.toList.map e).toArray)
    | .builtin .unsafeSliceData => some (Builtin.unsafeSliceData_ c.argTypes ty (c.args.toList.map e).toArray)
    | _ => none
  | _ => none

def opP (P : Program) (X : Pan) (op : Op) (ty : TypeId) (e : Operand → Value) (w : World) (K : Value → World → Prop) : Prop :=
  match op with
  | .move x => K (e x) w
  | .assign x => K (e x) w
  | .pick c a b => PICK (e c) (e a) (e b) fun v => K v w
  | .nilCheck x => NILC (e x) fun v => K v w
  | .store t a x => RUNU P X (Instr.storeAt t (e a) (e x)) w fun w' => K undef w'
  | .mapUpdate t m k x => RUNU P X (Instr.mapUpdate t (e m) (e k) (e x)) w fun w' => K undef w'
  | .insert t m k x => RUNU P X (Instr.mapUpdate t (e m) (e k) (e x)) w fun w' => K undef w'
  | .entryStore t m s x => RUNU P X (Instr.entryStore t (e m) (e s) (e x)) w fun w' => K undef w'
  | .call { callee := .value f, args, .. } => CALLV P X (e f) (args.toList.map e) w K
  | op =>
    match semOf op ty e with
    | some s => RUN P X s w K
    | none => False

/-- .. in a region that keeps the listed order, a call may be of yield. -/
def opQ (P : Program) (X : Pan) (op : Op) (ty : TypeId) (e : Operand → Value) (w : World) (K : Value → World → Prop) : Prop :=
  match op with
  | .call { callee := .value f, args, .. } => CALLY P X (e f) (args.toList.map e) w K
  | op => opP P X op ty e w K

theorem upon_RUN {P : Program} {X : Pan} {s : Sem Value} {w : World} {K : Value → World → Prop} {o : Oper} {a : Act} {next : Act → World → Prop} {Q : Exit → Act → World → Prop}
    (h : RUN P X s w K) (hX : ∀ ch w', X ch w' → Q (.panic ch) a w') (hK : ∀ v w', K v w' → next (a.put o.dst v) w') :
    o.upon P a next Q ((do pure (.value (← s)) : Sem Next).run P w) := by
  unfold RUN at h
  simp only [Sem.run_bind]
  split at h
  · rename_i v w' hr
    simp only [hr, Result.andThen_ok, Sem.run_pure]
    exact hK _ _ h
  · rename_i v w' hr
    rw [hr]
    exact hX _ _ h
  · exact h.elim

theorem upon_RUNU {P : Program} {X : Pan} {s : Sem Unit} {w : World} {K : World → Prop} {o : Oper} {a : Act} {next : Act → World → Prop} {Q : Exit → Act → World → Prop}
    (h : RUNU P X s w K) (hX : ∀ ch w', X ch w' → Q (.panic ch) a w') (hK : ∀ w', K w' → next (a.put o.dst undef) w') :
    o.upon P a next Q ((do s; pure .skip : Sem Next).run P w) := by
  unfold RUNU at h
  simp only [Sem.run_bind]
  split at h
  · rename_i v w' hr
    simp only [hr, Result.andThen_ok, Sem.run_pure]
    exact hK _ h
  · rename_i v w' hr
    rw [hr]
    exact hX _ _ h
  · exact h.elim

theorem upon_RUNN {P : Program} {X : Pan} {s : Sem Next} {w : World} {K : Value → World → Prop} {o : Oper} {a : Act} {next : Act → World → Prop} {Q : Exit → Act → World → Prop}
    (h : RUNN P X s w K) (hX : ∀ ch w', X ch w' → Q (.panic ch) a w') (hK : ∀ v w', K v w' → next (a.put o.dst v) w') :
    o.upon P a next Q (s.run P w) := by
  unfold RUNN at h
  split at h
  · rename_i v w' hr; rw [hr]; exact hK _ _ h
  · rename_i w' hr; rw [hr]; exact hK _ _ h
  · rename_i f args w' hr
    rw [hr]
    refine h.mono fun e w'' he => ?_
    cases e with
    | returned v => exact hK _ _ he
    | panicked ch => exact hX _ _ he
    | outgrown => exact he.elim
  · rename_i row args w' hr; rw [hr]; exact h.mono fun v w' hv => hK _ _ hv
  · rename_i v w' hr; rw [hr]; exact hX _ _ h
  · exact h.elim

theorem map_toList (c : Array Operand) (e : Operand → Value) : c.map e = (c.toList.map e).toArray := by
  apply Array.ext'; simp

theorem map_toList2 (c : Array (Nat × Operand)) (e : Operand → Value) : (c.map fun (i, x) => (i, e x)) = (c.toList.map fun p => (p.1, e p.2)).toArray := by
  apply Array.ext'; simp

theorem opP_sound {P : Program} {X : Pan} {o : Oper} {e : Operand → Value} {w : World} {K : Value → World → Prop} {a : Act} {next : Act → World → Prop} {Q : Exit → Act → World → Prop}
    (h : opP P X o.op o.type e w K) (hX : ∀ ch w', X ch w' → Q (.panic ch) a w') (hK : ∀ v w', K v w' → next (a.put o.dst v) w') :
    o.upon P a next Q ((execOp e o).run P w) := by
  obtain ⟨dst, op, ty, pos, after, guard⟩ := o
  unfold execOp
  cases op with
  | move x => simp only [Sem.run_pure]; exact hK _ _ h
  | assign x => simp only [Sem.run_pure]; exact hK _ _ h
  | pick c x y =>
    simp only [opP, PICK] at h
    split at h
    · rename_i t ht
      simp only [ht, asBool, Sem.run_bind, Sem.run_pure, Result.andThen_ok]
      cases t <;> exact hK _ _ h
    · exact h.elim
  | nilCheck x =>
    simp only [opP, NILC] at h
    simp only []
    split at h
    · exact h.elim
    · exact h.elim
    · exact h.elim
    · exact h.elim
    · rename_i h1 h2 h3 h4
      split <;> first
        | (rename_i hx; exact absurd hx h1)
        | (rename_i hx; exact absurd hx h2)
        | (rename_i hx; exact absurd hx h3)
        | (rename_i hx; exact absurd hx (h4 _ _ _))
        | (simp only [Sem.run_pure]; exact hK _ _ h)
  | store t x y => exact upon_RUNU h hX (fun w' hw => hK _ _ hw)
  | mapUpdate t m k x => exact upon_RUNU h hX (fun w' hw => hK _ _ hw)
  | insert t m k x => exact upon_RUNU h hX (fun w' hw => hK _ _ hw)
  | entryStore t m k x => exact upon_RUNU h hX (fun w' hw => hK _ _ hw)
  | alloc t => exact upon_RUN h hX hK
  | box t x => exact upon_RUN h hX hK
  | build t ps => simp only [map_toList2]; exact upon_RUN h hX hK
  | buildSlice t n ps => simp only [map_toList2]; exact upon_RUN h hX hK
  | load t x => exact upon_RUN h hX hK
  | binOp op t x y u => exact upon_RUN h hX hK
  | unOp op t x => exact upon_RUN h hX hK
  | convert s d x => exact upon_RUN h hX hK
  | makeInterface t x => exact upon_RUN h hX hK
  | makeFunc fn f c => simp only [map_toList]; exact upon_RUN h hX hK
  | makeMap t r => exact upon_RUN h hX hK
  | makeSlice t l c => exact upon_RUN h hX hK
  | slice t x l hi m => exact upon_RUN h hX hK
  | fieldAddr s x f => exact upon_RUN h hX hK
  | field s x f => exact upon_RUN h hX hK
  | indexAddr s x f => exact upon_RUN h hX hK
  | index s x f => exact upon_RUN h hX hK
  | lookup s x f ok => exact upon_RUN h hX hK
  | mapEntry s x f => exact upon_RUN h hX hK
  | range s x => exact upon_RUN h hX hK
  | next s x => exact upon_RUN h hX hK
  | entry s => exact upon_RUN h hX hK
  | typeAssert x t u ok => exact upon_RUN h hX hK
  | extract t i => exact upon_RUN h hX hK
  | panic x => exact upon_RUN h hX hK
  | call c =>
    obtain ⟨callee, args, argTypes⟩ := c
    cases callee with
    | value f =>
      simp only [opP, CALLV] at h
      split at h
      · rename_i g first cap hf
        have hargs : first ++ args.map e ++ cap = (first.toList ++ args.toList.map e ++ cap.toList).toArray := by
          apply Array.ext'; simp
        simp only [resolve, Deferred.ofValue, hf, Sem.run_bind, Sem.run_pure, Result.andThen_ok, invoke, hargs]
        exact upon_RUNN h hX hK
      · exact h.elim
    | invoke r m => simp [opP, semOf] at h
    | builtin b =>
      cases b <;> simp only [opP, semOf] at h <;> first
        | exact h.elim
        | (simp only [resolve, invoke, builtin, Sem.run_bind, Sem.run_pure, Result.andThen_ok, map_toList]
           have := upon_RUN (o := ⟨dst, .call ⟨.builtin _, args, argTypes⟩, ty, pos, after, guard⟩) h hX hK
           simpa only [Sem.run_bind, Sem.run_pure] using this)
  | _ => simp [opP, semOf] at h

theorem uponIn_of_upon {P : Program} {o : Oper} {a : Act} {next : Act → World → Prop} {Q : Exit → Act → World → Prop} {n : Nat} {r : Result Next} (h : o.upon P a next Q r) : o.uponIn Fence.wide n P a next Q r := by
  cases r with
  | ok x w' =>
    cases x with
    | enter f args => exact ⟨fun h => by simp [Fence.wide] at h, callsIn_wide.2 h⟩
    | row row args =>
      refine ⟨fun h => by simp [Fence.wide] at h, fun c cs _ => ?_⟩
      obtain ⟨v, w'', hr, hs⟩ := h c cs
      exact ⟨v, w'', hr, stepsIn_wide.2 hs⟩
    | value v => exact h
    | skip => exact h
    | defer d => exact h
    | _ => exact h.elim
  | halt x w' =>
    cases x with
    | panic v => exact h
    | _ => exact h.elim

theorem opQ_sound {P : Program} {X : Pan} {o : Oper} {e : Operand → Value} {w : World} {K : Value → World → Prop} {a : Act} {next : Act → World → Prop} {Q : Exit → Act → World → Prop}
    (h : opQ P X o.op o.type e w K) (hX : ∀ ch w', X ch w' → Q (.panic ch) a w') (hK : ∀ v w', K v w' → next (a.put o.dst v) w') :
    o.uponIn Fence.wide 0 P a next Q ((execOp e o).run P w) := by
  by_cases hv : ∃ f args ts, o.op = .call ⟨.value f, args, ts⟩
  · obtain ⟨f, args, ts, hop⟩ := hv
    rw [hop] at h
    simp only [opQ] at h
    by_cases hy : ∃ l first cap, e f = .func (.yield l) first cap
    · obtain ⟨l, first, cap, hf⟩ := hy
      rw [hf] at h
      obtain ⟨fn, tmps, assign, body, hrun, hr⟩ := h
      have hargs : first ++ args.map e = (first.toList ++ args.toList.map e).toArray := by
        apply Array.ext'; simp
      have hx : (execOp e o).run P w = .ok (.round l fn tmps assign body) w := by
        obtain ⟨dst, op, ty, pos, after, guard⟩ := o
        simp only at hop
        subst hop
        unfold execOp
        simp only [resolve, Deferred.ofValue, hf, Sem.run_bind, Sem.run_pure, Result.andThen_ok, invoke, hargs]
        exact hrun
      rw [hx]
      refine ⟨fun h => by simp [Fence.wide] at h, hr.mono fun ev w' he => ?_⟩
      cases ev with
      | returned v => exact hK _ _ he
      | panicked ch => exact hX _ _ he
      | outgrown => exact he.elim
    · refine uponIn_of_upon (opP_sound (K := K) (X := X) ?_ hX hK)
      rw [hop]
      simp only [opP]
      unfold CALLY at h
      split at h
      · rename_i hf; rw [hf]; exact h
      · rename_i hf; exact absurd ⟨_, _, _, hf⟩ hy
      · exact h.elim
  · refine uponIn_of_upon (opP_sound (K := K) (X := X) ?_ hX hK)
    unfold opQ at h
    split at h
    · rename_i f args ts hop
      exact absurd ⟨_, _, _, hop⟩ hv
    · exact h

attribute [irreducible] RUN RUNU RUNN CALL
end Go.Px

/-
  Regions: the listed order, and regions that draw their order (reads first; what was read stays true behind each operation that is not ordered behind it).
-/
namespace Go.Px

section
variable {P : Program} {ops : Array Oper}

def gval (ops : Array Oper) (ρ : Env) (j : Nat) : Value :=
  match (ops.toList[j]?).bind (·.dst) with
  | some d => ρ d
  | none => undef

def isGuard (ops : Array Oper) (k : Nat) : Bool := ops.toList.any fun o => match o.guard with | some (j, _) => Nat.beq j k | none => false

def GOK (g : Value) (want : Bool) (A B : Prop) : Prop :=
  match g, want with
  | .bool true, true => A
  | .bool false, false => A
  | _, _ => B

def dstsIn (N : Nat) (ops : Array Oper) : Bool := ops.toList.all fun o => dstIn N o.dst

theorem yielded_rel {N : Nat} {a : Act} {ρ : Env} (h : Rel N a ρ) (hd : dstsIn N ops = true) (j : Nat) :
    yielded ops a.tmps j = match gval ops ρ j with | .bool b => some b | _ => none := by
  unfold yielded gval
  rw [← Array.getElem?_toList]
  cases ho : ops.toList[j]? with
  | none => rfl
  | some o =>
    cases hdst : o.dst with
    | none => simp only [Option.bind_some, hdst]; rfl
    | some d =>
      simp only [Option.bind_some, hdst]
      have hin : dstIn N (some d) = true := by
        have := List.all_eq_true.1 hd o (List.mem_of_getElem? ho)
        rwa [hdst] at this
      have hlt : d < a.tmps.size := by rw [h.size]; simpa [dstIn, Nat.blt_eq] using hin
      have hg := h.get d
      rw [Array.getD_eq_getD_getElem?, Array.getElem?_eq_getElem hlt] at hg
      rw [Array.getElem?_eq_getElem hlt]
      simp only [Option.getD_some] at hg
      rw [hg]
      cases ρ d <;> rfl

theorem wanted_none {o : Oper} (h : o.guard = none) (y : Nat → Option Bool) : Region.wanted o y = true := by simp [Region.wanted, h]

theorem wanted_some {N : Nat} {a : Act} {ρ : Env} (h : Rel N a ρ) (hd : dstsIn N ops = true) {o : Oper} {j : Nat} {want : Bool} (hg : o.guard = some (j, want)) {A B : Prop}
    (H : GOK (gval ops ρ j) want A B) : (Region.wanted o (yielded ops a.tmps) = true ∧ A) ∨ (Region.wanted o (yielded ops a.tmps) = false ∧ B) := by
  have hw : Region.wanted o (yielded ops a.tmps) = ((match gval ops ρ j with | .bool b => some b | _ => none) == some want) := by
    unfold Region.wanted
    rw [hg]
    simp only []
    rw [yielded_rel h hd]
  rw [hw]
  unfold GOK at H
  clear hw
  generalize gval ops ρ j = g at *
  cases g with
  | bool b => cases b <;> cases want <;> first | exact .inl ⟨rfl, H⟩ | exact .inr ⟨rfl, H⟩
  | _ => exact .inr ⟨rfl, H⟩

/-! ### The listed order -/
def opsP (P : Program) (X : Pan) (ops : Array Oper) : Nat → List Oper → Env → World → (Env → World → Prop) → Prop
  | _, [], ρ, w, K => K ρ w
  | k, o :: rest, ρ, w, K =>
    let run : Prop := opQ P X o.op o.type (ev ρ) w fun v w' =>
      match isGuard ops k with
      | true => SPLITF v fun b => opsP P X ops (k + 1) rest (upd ρ o.dst (.bool b)) w' K
      | false => opsP P X ops (k + 1) rest (upd ρ o.dst v) w' K
    match o.guard with
    | none => run
    | some (j, want) => GOK (gval ops ρ j) want run (opsP P X ops (k + 1) rest (upd ρ o.dst undef) w K)

theorem SPLITF_elim {v : Value} {F : Bool → Prop} (h : SPLITF v F) : ∃ b, v = .bool b ∧ F b := by
  unfold SPLITF SPL at h
  split at h
  · exact ⟨_, rfl, h⟩
  · exact ⟨_, rfl, h⟩
  · exact h.elim

theorem opsP_sound {X : Pan} {N : Nat} {Q : Exit → Act → World → Prop} (hX : ∀ ch a w, a.defers = [] → X ch w → Q (.panic ch) a w) (hd : dstsIn N ops = true) {K : Env → World → Prop} (hK : ∀ a ρ w, Rel N a ρ → K ρ w → Q .normal a w) :
    ∀ (l : List Oper) (k : Nat) (ρ : Env) (a : Act) (w : World), (∀ o ∈ l, dstIn N o.dst = true) → Rel N a ρ → opsP P X ops k l ρ w K → wpListIn Fence.wide 0 P ops Q l a w := by
  intro l
  induction l with
  | nil => intro k ρ a w _ hr h; exact hK _ _ _ hr h
  | cons o rest ih =>
    intro k ρ a w hin hr h
    have hdo := hin o (by simp)
    have hrest : ∀ o ∈ rest, dstIn N o.dst = true := fun o ho => hin o (by simp [ho])
    have run : (opQ P X o.op o.type (ev ρ) w fun v w' => match isGuard ops k with
        | true => SPLITF v fun b => opsP P X ops (k + 1) rest (upd ρ o.dst (.bool b)) w' K
        | false => opsP P X ops (k + 1) rest (upd ρ o.dst v) w' K) → o.wpIn Fence.wide 0 P a w (wpListIn Fence.wide 0 P ops Q rest) Q := fun h => by
      refine ⟨fun _ _ => trivial, ?_⟩
      show o.uponIn Fence.wide 0 P a _ Q ((execOp a.eval o).run P w)
      rw [hr.eval]
      refine opQ_sound h (fun ch w' hx => hX _ _ _ hr.defers hx) fun v w' hv => ?_
      split at hv
      · obtain ⟨b, rfl, hb⟩ := SPLITF_elim hv
        exact ih _ _ _ _ hrest (hr.put hdo _) hb
      · exact ih _ _ _ _ hrest (hr.put hdo _) hv
    unfold opsP at h
    simp only [wpListIn]
    cases hg : o.guard with
    | none =>
      rw [hg] at h
      rw [if_pos (wanted_none hg _)]
      exact run h
    | some g =>
      obtain ⟨j, want⟩ := g
      rw [hg] at h
      rcases wanted_some hr hd hg h with ⟨hw, hA⟩ | ⟨hw, hB⟩
      · rw [if_pos hw]; exact run hA
      · rw [if_neg (by rw [hw]; simp)]
        exact ⟨fun _ _ => trivial, ih _ _ _ _ hrest (hr.put hdo _) hB⟩

/-! ### Which operation waits for which -/
def direct (ops : Array Oper) (j i : Nat) : Bool :=
  match ops.toList[j]? with
  | some o => o.after.toList.any fun e => Region.binds .any e && Nat.beq e.on i
  | none => false

def reach (ops : Array Oper) : Nat → Nat → Nat → Bool
  | 0, _, _ => false
  | n + 1, j, i => direct ops j i || (match ops.toList[j]? with
    | some o => o.after.toList.any fun e => Region.binds .any e && reach ops n e.on i
    | none => false)

def Closed (ops : Array Oper) (L : Array Bool) : Prop := ∀ j i, L.getD j false = true → j < ops.size → direct ops j i = true → L.getD i false = true

theorem ready_direct {L : Array Bool} {j : Nat} (h : j ∈ Region.ready .any ops L) {i : Nat} (hd : direct ops j i = true) : L.getD i false = true := by
  obtain ⟨_, o, ho, hall⟩ := mem_ready.1 h
  unfold direct at hd
  rw [Array.getElem?_toList, ho] at hd
  obtain ⟨e, he, hb⟩ := List.any_eq_true.1 hd
  simp only [Bool.and_eq_true] at hb
  have := hall e (by simpa using he) hb.1
  rwa [Nat.eq_of_beq_eq_true hb.2] at this

theorem getD_lt {L : Array Bool} {i : Nat} (h : L.getD i false = true) : i < L.size := by
  rcases Nat.lt_or_ge i L.size with h' | h'
  · exact h'
  · rw [Array.getD_eq_getD_getElem?, Array.getElem?_eq_none h'] at h; cases h

theorem getD_swap {L : Array Bool} {i : Nat} (h : L.getD i false = true) : L.getD i true = true := by
  have := getD_lt h
  rw [Array.getD_eq_getD_getElem?, Array.getElem?_eq_getElem this] at h ⊢
  exact h

theorem closed_reach {L : Array Bool} (hc : Closed ops L) : ∀ (n j i : Nat), (∀ k, direct ops j k = true → L.getD k false = true) → reach ops n j i = true → L.getD i false = true := by
  intro n
  induction n with
  | zero => intro j i _ h; simp [reach] at h
  | succ n ih =>
    intro j i hj h
    simp only [reach, Bool.or_eq_true] at h
    rcases h with h | h
    · exact hj i h
    · cases ho : ops.toList[j]? with
      | none => rw [ho] at h; cases h
      | some o =>
        rw [ho] at h
        obtain ⟨e, he, hb⟩ := List.any_eq_true.1 h
        simp only [Bool.and_eq_true] at hb
        have hdir : direct ops j e.on = true := by
          unfold direct
          rw [ho]
          exact List.any_eq_true.2 ⟨e, he, by simp [hb.1]⟩
        have hk := hj _ hdir
        refine ih e.on i (fun k hk' => ?_) hb.2
        rcases Nat.lt_or_ge e.on ops.size with hlt | hge
        · exact hc _ _ hk hlt hk'
        · unfold direct at hk'
          rw [List.getElem?_eq_none (by simpa using hge)] at hk'
          cases hk'

theorem ready_reach {L : Array Bool} (hc : Closed ops L) {j i n : Nat} (hj : j ∈ Region.ready .any ops L) (hi : L.getD i true = false) : reach ops n j i = false := by
  cases h : reach ops n j i with
  | false => rfl
  | true =>
    have := getD_swap (closed_reach hc n j i (fun k hk => ready_direct hj hk) h)
    rw [this] at hi
    cases hi

theorem ready_unlisted {L : Array Bool} {j : Nat} (hj : j ∈ Region.ready .any ops L) : L.getD j true = false := (mem_ready.1 hj).1

theorem Closed.set {L : Array Bool} (hc : Closed ops L) {i : Nat} (hi : i ∈ Region.ready .any ops L) : Closed ops (L.setIfInBounds i true) := by
  intro j k hj hlt hd
  by_cases hij : i = j
  · subst hij; exact getD_set_true (ready_direct hi hd)
  · rw [getD_set_ne false hij] at hj
    exact getD_set_true (hc j k hj hlt hd)

theorem closed_none (n : Nat) : Closed ops (Array.replicate n false) := fun j i h _ _ => by
  have := getD_lt h
  simp at this
  simp [this] at h

/-! ### All orders -/
abbrev Facts := List (Nat × (World → Prop))

/-- What is still to be kept behind operation 'i'. -/
def drop (ops : Array Oper) (i : Nat) (Γ : Facts) : Facts := Γ.filter fun γ => !reach ops ops.size i γ.1

theorem mem_drop {i : Nat} {Γ : Facts} {γ : Nat × (World → Prop)} : γ ∈ drop ops i Γ ↔ γ ∈ Γ ∧ reach ops ops.size i γ.1 = false := by
  simp [drop, List.mem_filter]

def W (P : Program) (ops : Array Oper) (Q : Exit → Act → World → Prop) : Nat → Array Bool → Facts → Act → World → Prop
  | 0, L, _, a, w => Region.ready .any ops L = [] ∧ Q .normal a w
  | n + 1, L, Γ, a, w =>
    (Region.ready .any ops L = [] → Q .normal a w) ∧
    ∀ i ∈ Region.ready .any ops L, wpOp P ops Q i (fun a' w' => (∀ γ ∈ drop ops i Γ, γ.2 w') ∧ W P ops Q n (L.setIfInBounds i true) (drop ops i Γ) a' w') a w

theorem wpAny_of_W {Q : Exit → Act → World → Prop} : ∀ (n : Nat) (L : Array Bool) (Γ : Facts) (a : Act) (w : World), W P ops Q n L Γ a w → wpAny P .any ops Q n L a w
  | 0, _, _, _, _, h => h
  | n + 1, _, _, _, _, h => ⟨h.1, fun i hi => wpOp_mono (fun a' w' h' => wpAny_of_W n _ _ a' w' h'.2) (h.2 i hi)⟩

theorem W_mono {Q : Exit → Act → World → Prop} : ∀ (n : Nat) (L : Array Bool) (Γ Γ' : Facts) (a : Act) (w : World), (∀ γ ∈ Γ', γ ∈ Γ) → W P ops Q n L Γ a w → W P ops Q n L Γ' a w
  | 0, _, _, _, _, _, _, h => h
  | n + 1, _, _, _, _, _, hs, h => ⟨h.1, fun i hi => wpOp_mono (fun a' w' h' =>
      have hs' : ∀ γ ∈ drop ops i _, γ ∈ drop ops i _ := fun _ hγ => mem_drop.2 ⟨hs _ (mem_drop.1 hγ).1, (mem_drop.1 hγ).2⟩
      ⟨fun _ hγ => h'.1 _ (hs' _ hγ), W_mono n _ _ _ a' w' hs' h'.2⟩) (h.2 i hi)⟩

/-- A fact that always stands may be added. -/
theorem W_true {Q : Exit → Act → World → Prop} (i : Nat) : ∀ (n : Nat) (L : Array Bool) (Γ Γ' : Facts) (a : Act) (w : World), (∀ γ ∈ Γ', γ ∈ Γ ∨ γ = (i, fun _ => True)) → W P ops Q n L Γ a w → W P ops Q n L Γ' a w
  | 0, _, _, _, _, _, _, h => h
  | n + 1, _, _, _, _, _, hs, h => ⟨h.1, fun j hj => wpOp_mono (fun a' w' h' =>
      have hs' : ∀ γ ∈ drop ops j _, γ ∈ drop ops j _ ∨ γ = (i, fun _ => True) := fun γ hγ => by
        rcases hs _ (mem_drop.1 hγ).1 with h1 | h1
        · exact .inl (mem_drop.2 ⟨h1, (mem_drop.1 hγ).2⟩)
        · exact .inr h1
      ⟨fun γ hγ => by
        rcases hs' γ hγ with h1 | h1
        · exact h'.1 γ h1
        · rw [h1]; trivial, W_true i n _ _ _ a' w' hs' h'.2⟩) (h.2 j hj)⟩

/-- Operation 'o' leaves 'v' in its slot, and the world as it is. -/
def yieldsR (P : Program) (ops : Array Oper) (o : Oper) (v : Value) (a : Act) (w : World) : Prop :=
  (Region.wanted o (yielded ops a.tmps) = true ∧ (execOp a.eval o).run P w = .ok (.value v) w) ∨ (Region.wanted o (yielded ops a.tmps) = false ∧ v = undef)

theorem yieldsR.wpOp {Q : Exit → Act → World → Prop} {i : Nat} {o : Oper} {v : Value} {a : Act} {w : World} (hi : ops[i]? = some o) (hy : yieldsR P ops o v a w) {K : Act → World → Prop} (h : K (a.put o.dst v) w) :
    wpOp P ops Q i K a w := by
  unfold Go.wpOp
  simp only [hi]
  rcases hy with ⟨hw, hr⟩ | ⟨hw, rfl⟩
  · rw [if_pos hw]; left; unfold Oper.wp; rw [hr]; exact h
  · rw [if_neg (by rw [hw]; simp)]; exact h

/-- All pairs of operations that are not ordered touch different slots. -/
def apartB (ops : Array Oper) : Bool :=
  (List.range ops.size).all fun i => (List.range ops.size).all fun j =>
    Nat.beq i j || reach ops ops.size i j || reach ops ops.size j i || (match ops.toList[i]?, ops.toList[j]? with
      | some x, some y => x.apart ops y
      | _, _ => true)

theorem apartB_spec (h : apartB ops = true) {i j : Nat} {x y : Oper} (hi : ops[i]? = some x) (hj : ops[j]? = some y) (hne : i ≠ j) (h1 : reach ops ops.size i j = false) (h2 : reach ops ops.size j i = false) : x.apart ops y = true := by
  have hli : i < ops.size := (Array.getElem?_eq_some_iff.1 hi).1
  have hlj : j < ops.size := (Array.getElem?_eq_some_iff.1 hj).1
  have h3 := List.all_eq_true.1 (List.all_eq_true.1 h i (List.mem_range.2 hli)) j (List.mem_range.2 hlj)
  rw [h1, h2, Array.getElem?_toList, Array.getElem?_toList, hi, hj] at h3
  simp only [Bool.or_false, Bool.or_eq_true] at h3
  rcases h3 with h3 | h3
  · exact absurd (Nat.eq_of_beq_eq_true h3) hne
  · exact h3

theorem wpOp_put {Q : Exit → Act → World → Prop} {j : Nat} {oi oj : Oper} {v : Value} (hj : ops[j]? = some oj) (hap : oi.apart ops oj = true)
    (hsj : ∀ cs b, oj.op ≠ .select cs b) (hQ : ∀ ch a a' w, a'.defers = a.defers → Q (.panic ch) a w → Q (.panic ch) a' w) {K K' : Act → World → Prop} {a : Act} {w : World}
    (hK : ∀ ds u w', K ((({ a with defers := ds } : Act).put oj.dst u).put oi.dst v) w' → K' (({ a with defers := ds } : Act).put oj.dst u) w')
    (h : wpOp P ops Q j K (a.put oi.dst v) w) : wpOp P ops Q j K' a w := by
  obtain ⟨h1, h2, h3⟩ := Oper.apart_spec hap
  unfold wpOp at *
  simp only [hj] at *
  rw [wanted_put oj a oi.dst v h1] at h
  have hx : execOp (a.put oi.dst v).eval oj = execOp a.eval oj := execOp_put oj hsj a oi.dst v h1
  split
  · rename_i hw
    rw [if_pos hw] at h
    rcases h with h | ⟨⟨h, h'⟩, h''⟩
    · left
      unfold Oper.wp at *
      rw [hx] at h
      have hp : ∀ u w', K ((a.put oi.dst v).put oj.dst u) w' → K' (a.put oj.dst u) w' := fun u w' hk => hK a.defers u w' (by rw [← Act.put_comm a v u h2]; exact hk)
      have hds : a.defers = (a.put oi.dst v).defers := by unfold Act.put; cases oi.dst <;> rfl
      have hp' : ∀ d u w', K (({ a.put oi.dst v with defers := d :: (a.put oi.dst v).defers } : Act).put oj.dst u) w' → K' (({ a with defers := d :: a.defers } : Act).put oj.dst u) w' := fun d u w' hk => by
        have hc := Act.put_comm ({ a with defers := d :: a.defers } : Act) v u h2
        refine hK (d :: a.defers) u w' ?_
        rw [← hc]
        have he : ({ a.put oi.dst v with defers := d :: (a.put oi.dst v).defers } : Act) = ({ a with defers := d :: a.defers } : Act).put oi.dst v := by
          unfold Act.put; cases oi.dst <;> rfl
        rw [← he]
        exact hk
      generalize (execOp a.eval oj).run P w = r at *
      cases r with
      | ok n w' =>
        cases n <;> simp only [Oper.upon] at h ⊢ <;> first
          | exact hp _ _ h
          | exact hp' _ _ _ h
          | (refine Calls.mono h fun e w'' he => ?_
             cases e with
             | returned u => exact hp _ _ he
             | panicked ch => exact hQ _ _ _ _ hds he
             | outgrown => exact he)
          | (exact Rows.mono h fun _ _ he => hp _ _ he)
      | halt x w' => cases x <;> simp only [Oper.upon] at h ⊢ <;> first | exact hQ _ _ _ _ hds h | exact h
    · right
      refine ⟨⟨?_, ?_⟩, h''⟩
      · rw [hx] at h; exact h
      · rw [hx] at h'; exact h'
  · rename_i hw
    rw [if_neg hw] at h
    exact hK a.defers _ _ (by rw [← Act.put_comm a v undef h2]; exact h)

/-- **A read that may come up now may be taken first.** 'F' is kept by whatever comes up and is not ordered behind it, and says that the read still yields 'v'. -/
theorem W_first {Q : Exit → Act → World → Prop} (hQ : ∀ ch a a' w, a'.defers = a.defers → Q (.panic ch) a w → Q (.panic ch) a' w) (hsel : ∀ (j : Nat) (o : Oper) cs b, ops[j]? = some o → o.op ≠ .select cs b) (hap : apartB ops = true)
    {i : Nat} {oi : Oper} {v : Value} {F : World → Prop} (hi : ops[i]? = some oi) :
    ∀ (n : Nat) (L : Array Bool) (Γ : Facts) (a : Act) (w : World), Closed ops L → i ∈ Region.ready .any ops L → (∀ w', F w' → yieldsR P ops oi v a w') → F w → (∀ γ ∈ Γ, γ.2 w) →
      W P ops Q n (L.setIfInBounds i true) ((i, F) :: Γ) (a.put oi.dst v) w → W P ops Q (n + 1) L Γ a w := by
  intro n
  induction n with
  | zero =>
    intro L Γ a w _ hr hF hFw hΓ H
    refine ⟨fun h => (by rw [h] at hr; cases hr), fun j hj => ?_⟩
    by_cases hji : j = i
    · subst hji
      exact (hF w hFw).wpOp hi ⟨fun γ hγ => hΓ γ (mem_drop.1 hγ).1, H⟩
    · have := ready_mono hj hji
      rw [H.1] at this
      cases this
  | succ n ih =>
    intro L Γ a w hc hr hF hFw hΓ H
    refine ⟨fun h => (by rw [h] at hr; cases hr), fun j hj => ?_⟩
    by_cases hji : j = i
    · subst hji
      refine (hF w hFw).wpOp hi ⟨fun γ hγ => hΓ γ (mem_drop.1 hγ).1, ?_⟩
      exact W_mono _ _ _ _ _ _ (fun γ hγ => List.mem_cons_of_mem _ (mem_drop.1 hγ).1) H
    · have h1 := H.2 j (ready_mono hj hji)
      obtain ⟨_, oj, hoj, _⟩ := mem_ready.1 hj
      have r1 : reach ops ops.size j i = false := ready_reach hc hj (ready_unlisted hr)
      have r2 : reach ops ops.size i j = false := ready_reach hc hr (ready_unlisted hj)
      have hapij := apartB_spec hap hi hoj (fun e => hji e.symm) r2 r1
      obtain ⟨_, _, h3⟩ := Oper.apart_spec hapij
      refine wpOp_put hoj hapij (fun cs b => hsel j oj cs b hoj) hQ (fun ds u w' hk => ?_) h1
      obtain ⟨hfacts, hW⟩ := hk
      have hFw' : F w' := hfacts (i, F) (mem_drop.2 ⟨by simp, r1⟩)
      refine ⟨fun γ hγ => hfacts γ (mem_drop.2 ⟨List.mem_cons_of_mem _ (mem_drop.1 hγ).1, (mem_drop.1 hγ).2⟩), ?_⟩
      refine ih (L.setIfInBounds j true) (drop ops j Γ) _ w' (hc.set hj) (ready_mono hr (Ne.symm hji)) (fun w'' hw'' => ?_) hFw' (fun γ hγ => hfacts γ (mem_drop.2 ⟨List.mem_cons_of_mem _ (mem_drop.1 hγ).1, (mem_drop.1 hγ).2⟩)) ?_
      · have hy : yieldsR P ops oi v ({ a with defers := ds } : Act) w'' := hF w'' hw''
        unfold yieldsR at hy ⊢
        rw [wanted_put oi _ oj.dst u h3, execOp_put oi (fun cs b => hsel i oi cs b hi) _ oj.dst u h3]
        exact hy
      · rw [Array.setIfInBounds_comm _ _ hji]
        refine W_mono _ _ _ _ _ _ (fun γ hγ => ?_) hW
        rcases List.mem_cons.1 hγ with rfl | hγ
        · exact mem_drop.2 ⟨by simp, r1⟩
        · exact mem_drop.2 ⟨List.mem_cons_of_mem _ (mem_drop.1 hγ).1, (mem_drop.1 hγ).2⟩

/-! ### Reads first -/
def PUR (P : Program) (s : Sem Value) (K : Value → Prop) (_k : Tok K := tok K) : Prop := ∃ v, (∀ w, s.run P w = .ok v w) ∧ K v
def LD (P : Program) (s : Sem Value) (w : World) (K : Value → Prop) (_k : Tok K := tok K) : Prop := ∃ v, s.run P w = .ok v w ∧ K v

def isRead (ops : Array Oper) (i : Nat) : Bool :=
  match ops.toList[i]? with
  | some o => match rkind o.op with | .eff => false | _ => true
  | none => false

/-- A read: 'next v none' where what it yields hangs on no world, 'next v (some F)' where 'F' must be kept. -/
def readP (P : Program) (op : Op) (ty : TypeId) (e : Operand → Value) (w : World) (next : Value → Option (World → Prop) → Prop) : Prop :=
  match op with
  | .move x => next (e x) none
  | .assign x => next (e x) none
  | .pick c a b => PICK (e c) (e a) (e b) fun v => next v none
  | .nilCheck x => NILC (e x) fun v => next v none
  | op =>
    match semOf op ty e with
    | some s =>
      match rkind op with
      | .pure => PUR P s fun v => next v none
      | .load => LD P s w fun v => next v (some fun w' => s.run P w' = .ok v w')
      | .eff => False
    | none => False

def addF (i : Nat) (f : Option (World → Prop)) (Γ : Facts) : Facts :=
  match f with
  | none => Γ
  | some F => (i, F) :: Γ

def HOLDS : Facts → World → Prop → Prop
  | [], _, B => B
  | γ :: Γ, w, B => γ.2 w ∧ HOLDS Γ w B

def ALLC : List Nat → (Nat → Prop) → Prop
  | [], _ => True
  | [i], f => f i
  | i :: l, f => f i ∧ ALLC l f

def drawP (P : Program) (X : Pan) (ops : Array Oper) : Nat → Array Bool → Facts → Env → World → (Env → World → Prop) → Prop
  | 0, L, _, ρ, w, K => match Region.ready .any ops L with | [] => K ρ w | _ => False
  | n + 1, L, Γ, ρ, w, K =>
    match (Region.ready .any ops L).find? (isRead ops) with
    | some i =>
      match ops.toList[i]? with
      | none => False
      | some o =>
        let run : Prop := readP P o.op o.type (ev ρ) w fun v f =>
          match isGuard ops i with
          | true => SPLITF v fun b => drawP P X ops n (L.setIfInBounds i true) (addF i f Γ) (upd ρ o.dst (.bool b)) w K
          | false => drawP P X ops n (L.setIfInBounds i true) (addF i f Γ) (upd ρ o.dst v) w K
        match o.guard with
        | none => run
        | some (j, want) => GOK (gval ops ρ j) want run (drawP P X ops n (L.setIfInBounds i true) Γ (upd ρ o.dst undef) w K)
    | none =>
      match Region.ready .any ops L with
      | [] => K ρ w
      | l => ALLC l fun i =>
        match ops.toList[i]? with
        | none => False
        | some o =>
          let run : Prop := opP P X o.op o.type (ev ρ) w fun v w' =>
            HOLDS (drop ops i Γ) w' (match isGuard ops i with
              | true => SPLITF v fun b => drawP P X ops n (L.setIfInBounds i true) (drop ops i Γ) (upd ρ o.dst (.bool b)) w' K
              | false => drawP P X ops n (L.setIfInBounds i true) (drop ops i Γ) (upd ρ o.dst v) w' K)
          match o.guard with
          | none => run
          | some (j, want) => GOK (gval ops ρ j) want run (drawP P X ops n (L.setIfInBounds i true) (drop ops i Γ) (upd ρ o.dst undef) w K)

theorem HOLDS_spec : ∀ {Γ : Facts} {w : World} {B : Prop}, HOLDS Γ w B → (∀ γ ∈ Γ, γ.2 w) ∧ B
  | [], _, _, h => ⟨(fun γ hγ => by cases hγ), h⟩
  | γ :: Γ, w, B, h => by
    obtain ⟨h1, h2⟩ := h
    obtain ⟨h3, h4⟩ := HOLDS_spec h2
    exact ⟨fun δ hδ => by
      rcases List.mem_cons.1 hδ with rfl | hδ
      · exact h1
      · exact h3 _ hδ, h4⟩

theorem ALLC_spec : ∀ {l : List Nat} {f : Nat → Prop}, ALLC l f → ∀ i ∈ l, f i
  | [], _, _, i, hi => by cases hi
  | [j], f, h, i, hi => by
    rcases List.mem_cons.1 hi with rfl | hi
    · exact h
    · cases hi
  | j :: k :: l, f, h, i, hi => by
    obtain ⟨h1, h2⟩ := h
    rcases List.mem_cons.1 hi with rfl | hi
    · exact h1
    · exact ALLC_spec h2 i hi

theorem run_value {P : Program} {s : Sem Value} {w : World} {v : Value} (h : s.run P w = .ok v w) : (do pure (.value (← s)) : Sem Next).run P w = .ok (.value v) w := by
  simp only [Sem.run_bind, h, Result.andThen_ok, Sem.run_pure]

/-- What a read says of the operation itself. -/
theorem readP_spec {o : Oper} {e : Operand → Value} {w : World} {next : Value → Option (World → Prop) → Prop} (h : readP P o.op o.type e w next) :
    ∃ v f, next v f ∧ (∀ F, f = some F → F w) ∧ ∀ w', (∀ F, f = some F → F w') → (execOp e o).run P w' = .ok (.value v) w' := by
  obtain ⟨dst, op, ty, pos, after, guard⟩ := o
  have key : ∀ (s : Sem Value) (k : RK), semOf op ty e = some s → (match k with
        | .pure => PUR P s fun v => next v none
        | .load => LD P s w fun v => next v (some fun w' => s.run P w' = .ok v w')
        | .eff => False) → (∀ v w', s.run P w' = .ok v w' → (execOp e ⟨dst, op, ty, pos, after, guard⟩).run P w' = .ok (.value v) w') →
      ∃ v f, next v f ∧ (∀ F, f = some F → F w) ∧ ∀ w', (∀ F, f = some F → F w') → (execOp e ⟨dst, op, ty, pos, after, guard⟩).run P w' = .ok (.value v) w' := by
    intro s k _ hk hs
    cases k with
    | pure =>
      obtain ⟨v, hv, hn⟩ := hk
      exact ⟨v, none, hn, (fun F hF => by cases hF), fun w' _ => hs v w' (hv w')⟩
    | load =>
      obtain ⟨v, hv, hn⟩ := hk
      exact ⟨v, _, hn, (fun F hF => by cases hF; exact hv), fun w' hF => hs v w' (hF _ rfl)⟩
    | eff => exact hk.elim
  cases op with
  | move x => exact ⟨_, none, h, (fun F hF => by cases hF), fun w' _ => rfl⟩
  | assign x => exact ⟨_, none, h, (fun F hF => by cases hF), fun w' _ => rfl⟩
  | pick c a b =>
    simp only [readP, PICK] at h
    split at h
    · rename_i t ht
      refine ⟨_, none, h, (fun F hF => by cases hF), fun w' _ => ?_⟩
      simp only [execOp, ht, asBool, Sem.run_bind, Sem.run_pure, Result.andThen_ok]
      cases t <;> rfl
    · exact h.elim
  | nilCheck x =>
    simp only [readP, NILC] at h
    split at h
    · exact h.elim
    · exact h.elim
    · exact h.elim
    · exact h.elim
    · rename_i h1 h2 h3 h4
      refine ⟨_, none, h, (fun F hF => by cases hF), fun w' _ => ?_⟩
      unfold execOp
      simp only [Sem.run_pure]
  | call c =>
    obtain ⟨callee, args, argTypes⟩ := c
    cases callee with
    | value f => exact h.elim
    | invoke r m => exact h.elim
    | builtin b =>
      cases b <;> first
        | exact h.elim
        | (refine key _ .load rfl h fun v w' hr => ?_
           simp only [execOp, resolve, invoke, builtin, Sem.run_bind, Sem.run_pure, Result.andThen_ok, map_toList, hr])
  | build t ps => exact key _ .pure rfl h fun v w' hr => by simp only [execOp, map_toList2]; exact run_value hr
  | makeFunc fn fs cs => exact key _ .pure rfl h fun v w' hr => by simp only [execOp, map_toList]; exact run_value hr
  | _ => first
    | exact h.elim
    | exact key _ .pure rfl h fun v w' hr => run_value hr
    | exact key _ .load rfl h fun v w' hr => run_value hr

def opsOk (N : Nat) (ops : Array Oper) : Bool := dstsIn N ops && Region.noSelect ops && apartB ops

theorem drawP_sound {P : Program} {ops : Array Oper} {X : Pan} {N : Nat} {Q : Exit → Act → World → Prop} (hX : ∀ ch a w, a.defers = [] → X ch w → Q (.panic ch) a w) (hQ : ∀ ch a a' w, a'.defers = a.defers → Q (.panic ch) a w → Q (.panic ch) a' w)
    (hok : opsOk N ops = true) {K : Env → World → Prop} (hK : ∀ a ρ w, Rel N a ρ → K ρ w → Q .normal a w) :
    ∀ (n : Nat) (L : Array Bool) (Γ : Facts) (ρ : Env) (a : Act) (w : World), Closed ops L → (∀ γ ∈ Γ, γ.2 w) → Rel N a ρ → drawP P X ops n L Γ ρ w K → W P ops Q n L Γ a w := by
  simp only [opsOk, Bool.and_eq_true] at hok
  obtain ⟨⟨hd, hns⟩, hap⟩ := hok
  have hsel : ∀ (j : Nat) (o : Oper) cs b, ops[j]? = some o → o.op ≠ .select cs b := fun j o cs b ho => Region.noSelect_spec hns j o cs b ho
  intro n
  induction n with
  | zero =>
    intro L Γ ρ a w _ _ hr h
    unfold drawP at h
    split at h
    · rename_i h0; exact ⟨h0, hK _ _ _ hr h⟩
    · exact h.elim
  | succ n ih =>
    intro L Γ ρ a w hc hΓ hr h
    unfold drawP at h
    have dst_in : ∀ {i : Nat} {o : Oper}, ops.toList[i]? = some o → dstIn N o.dst = true := fun ho => List.all_eq_true.1 hd _ (List.mem_of_getElem? ho)
    split at h
    · rename_i i hfind
      have hi : i ∈ Region.ready .any ops L := List.mem_of_find?_eq_some hfind
      split at h
      · exact h.elim
      · rename_i o ho
        have ho' : ops[i]? = some o := by rw [← Array.getElem?_toList]; exact ho
        have skip : Region.wanted o (yielded ops a.tmps) = false → drawP P X ops n (L.setIfInBounds i true) Γ (upd ρ o.dst undef) w K → W P ops Q (n + 1) L Γ a w := fun hw hh => by
          refine W_first hQ hsel hap (F := fun _ => True) (v := undef) ho' n L Γ a w hc hi (fun _ _ => .inr ⟨hw, rfl⟩) trivial hΓ ?_
          exact W_true i n _ Γ _ _ _ (fun γ hγ => by
            rcases List.mem_cons.1 hγ with rfl | hγ
            · exact .inr rfl
            · exact .inl hγ) (ih _ _ _ _ _ (hc.set hi) hΓ (hr.put (dst_in ho) _) hh)
        have run : Region.wanted o (yielded ops a.tmps) = true → (readP P o.op o.type (ev ρ) w fun v f =>
            match isGuard ops i with
            | true => SPLITF v fun b => drawP P X ops n (L.setIfInBounds i true) (addF i f Γ) (upd ρ o.dst (.bool b)) w K
            | false => drawP P X ops n (L.setIfInBounds i true) (addF i f Γ) (upd ρ o.dst v) w K) → W P ops Q (n + 1) L Γ a w := fun hw hh => by
          obtain ⟨v, f, hn, hf, hy⟩ := readP_spec (o := o) hh
          have hn' : drawP P X ops n (L.setIfInBounds i true) (addF i f Γ) (upd ρ o.dst v) w K := by
            split at hn
            · obtain ⟨b, rfl, hb⟩ := SPLITF_elim hn; exact hb
            · exact hn
          cases f with
          | none =>
            refine W_first hQ hsel hap (F := fun _ => True) (v := v) ho' n L Γ a w hc hi (fun w' _ => .inl ⟨hw, by rw [hr.eval]; exact hy w' (fun F hF => by cases hF)⟩) trivial hΓ ?_
            exact W_true i n _ Γ _ _ _ (fun γ hγ => by
              rcases List.mem_cons.1 hγ with rfl | hγ
              · exact .inr rfl
              · exact .inl hγ) (ih _ _ _ _ _ (hc.set hi) hΓ (hr.put (dst_in ho) _) hn')
          | some F =>
            have hFw : F w := hf F rfl
            refine W_first hQ hsel hap (F := F) (v := v) ho' n L Γ a w hc hi (fun w' hF => .inl ⟨hw, by rw [hr.eval]; exact hy w' (fun F' hF' => by cases hF'; exact hF)⟩) hFw hΓ ?_
            refine ih _ _ _ _ _ (hc.set hi) (fun γ hγ => ?_) (hr.put (dst_in ho) _) hn'
            rcases List.mem_cons.1 hγ with rfl | hγ
            · exact hFw
            · exact hΓ _ hγ
        cases hg : o.guard with
        | none => rw [hg] at h; exact run (wanted_none hg _) h
        | some g =>
          obtain ⟨j, want⟩ := g
          rw [hg] at h
          rcases wanted_some hr hd hg h with ⟨hw, hA⟩ | ⟨hw, hB⟩
          · exact run hw hA
          · exact skip hw hB
    · refine ⟨fun h0 => ?_, fun i hi => ?_⟩
      · rw [h0] at h; exact hK _ _ _ hr h
      · split at h
        · rename_i h0; rw [h0] at hi; cases hi
        · have h := ALLC_spec h i hi
          split at h
          · exact h.elim
          · rename_i o ho
            have ho' : ops[i]? = some o := by rw [← Array.getElem?_toList]; exact ho
            unfold wpOp
            simp only [ho']
            have run : (opP P X o.op o.type (ev ρ) w fun v w' =>
              HOLDS (drop ops i Γ) w' (match isGuard ops i with
                | true => SPLITF v fun b => drawP P X ops n (L.setIfInBounds i true) (drop ops i Γ) (upd ρ o.dst (.bool b)) w' K
                | false => drawP P X ops n (L.setIfInBounds i true) (drop ops i Γ) (upd ρ o.dst v) w' K)) →
                o.wp P a w (fun a' w' => (∀ γ ∈ drop ops i Γ, γ.2 w') ∧ W P ops Q n (L.setIfInBounds i true) (drop ops i Γ) a' w') Q := fun hh => by
              unfold Oper.wp
              rw [hr.eval]
              refine opP_sound hh (fun ch w' hx => hX _ _ _ hr.defers hx) fun v w' hv => ?_
              obtain ⟨hfs, hv⟩ := HOLDS_spec hv
              refine ⟨hfs, ?_⟩
              split at hv
              · obtain ⟨b, rfl, hb⟩ := SPLITF_elim hv
                exact ih _ _ _ _ _ (hc.set hi) hfs (hr.put (dst_in ho) _) hb
              · exact ih _ _ _ _ _ (hc.set hi) hfs (hr.put (dst_in ho) _) hv
            cases hg : o.guard with
            | none =>
              rw [hg] at h
              rw [if_pos (wanted_none hg _)]
              exact .inl (run h)
            | some g =>
              obtain ⟨j, want⟩ := g
              rw [hg] at h
              rcases wanted_some hr hd hg h with ⟨hw, hA⟩ | ⟨hw, hB⟩
              · rw [if_pos hw]; exact .inl (run hA)
              · rw [if_neg (by rw [hw]; simp)]
                have hfs : ∀ γ ∈ drop ops i Γ, γ.2 w := fun γ hγ => hΓ γ (mem_drop.1 hγ).1
                exact ⟨hfs, ih _ _ _ _ _ (hc.set hi) hfs (hr.put (dst_in ho) _) hB⟩

end
theorem LD_elim {P : Program} {s : Sem Value} {w : World} {K : Value → Prop} (h : LD P s w K) : ∃ v, s.run P w = .ok v w ∧ K v := h
theorem LD_intro {P : Program} {s : Sem Value} {w : World} {K : Value → Prop} (v : Value) (h : s.run P w = .ok v w) (k : K v) : LD P s w K := ⟨v, h, k⟩
theorem PUR_elim {P : Program} {s : Sem Value} {K : Value → Prop} (h : PUR P s K) : ∃ v, (∀ w, s.run P w = .ok v w) ∧ K v := h
theorem PUR_intro {P : Program} {s : Sem Value} {K : Value → Prop} (v : Value) (h : ∀ w, s.run P w = .ok v w) (k : K v) : PUR P s K := ⟨v, h, k⟩
attribute [irreducible] LD PUR
end Go.Px

/-
  Code as a predicate over slots, and that it is sound.
-/
namespace Go.Px

def thenE (N : Env → World → Prop) (Q : Exit → Env → World → Prop) : Exit → Env → World → Prop
  | .normal => N
  | e => Q e

def blockE (id : Nat) (Q : Exit → Env → World → Prop) : Exit → Env → World → Prop
  | .exit k => cond (Nat.beq k id) (Q .normal) (Q (.exit k))
  | e => Q e

/-- Of a labelled scope: a jump to its label goes round; other jumps are not looked at. -/
def gotoE (l : Nat) (N : Env → World → Prop) (Q : Exit → Env → World → Prop) : Exit → Env → World → Prop
  | .goto k => cond (Nat.beq k l) N (fun _ _ => False)
  | e => Q e

def codeP (P : Program) (X : Pan) : Code → (Exit → Env → World → Prop) → Env → World → Prop
  | .skip, Q, ρ, w => Q .normal ρ w
  | .label _, Q, ρ, w => Q .normal ρ w
  | .region _ ops false, Q, ρ, w => opsP P X ops 0 ops.toList ρ w (Q .normal)
  | .region _ ops true, Q, ρ, w => drawP P X ops ops.size (Array.replicate ops.size false) [] ρ w.drew (Q .normal)
  | .seq a b, Q, ρ, w => codeP P X a (thenE (codeP P X b Q) Q) ρ w
  | .cond c x y, Q, ρ, w => SPLITF (ev ρ c) fun b => cond b (codeP P X x Q ρ w) (codeP P X y Q ρ w)
  | .block id b, Q, ρ, w => codeP P X b (blockE id Q) ρ w
  | .loop b, Q, ρ, w => ∃ (I : Env → World → Prop) (μ : Env → World → Nat), I ρ w ∧ ∀ ρ' w', I ρ' w' → codeP P X b (thenE (fun ρ'' w'' => I ρ'' w'' ∧ μ ρ'' w'' < μ ρ' w') Q) ρ' w'
  | .exit id, Q, ρ, w => Q (.exit id) ρ w
  | .ret, Q, ρ, w => Q .ret ρ w
  | .goto l, Q, ρ, w => Q (.goto l) ρ w
  | .scope (.seq (.label l) b), Q, ρ, w => ∃ (I : Env → World → Prop) (μ : Env → World → Nat), I ρ w ∧ ∀ ρ' w', I ρ' w' → codeP P X b (gotoE l (fun ρ'' w'' => I ρ'' w'' ∧ μ ρ'' w'' < μ ρ' w') Q) ρ' w'
  | _, _, _, _ => False

def codeOk (N : Nat) : Code → Bool
  | .region _ ops false => dstsIn N ops
  | .region _ ops true => opsOk N ops
  | .seq a b => codeOk N a && codeOk N b
  | .cond _ x y => codeOk N x && codeOk N y
  | .block _ b => codeOk N b
  | .loop b => codeOk N b
  | .scope (.seq (.label _) b) => codeOk N b
  | _ => true

/-- The posts of frames and of slots. -/
def post (X : Pan) (N : Nat) (Q : Exit → Env → World → Prop) : Exit → Act → World → Prop
  | .panic ch, a, w => a.defers = [] ∧ X ch w
  | e, a, w => ∃ ρ, Rel N a ρ ∧ Q e ρ w

theorem wp_scope_round {P : Program} {l : Nat} {c : Code} {Q : Exit → Act → World → Prop} {a : Act} {w : World} (I : Act → World → Prop) (μ : Act → World → Nat) (h0 : I a w)
    (round : ∀ a w, I a w → c.wp P (fun | .goto k, a', w' => k = l ∧ I a' w' ∧ μ a' w' < μ a w | e, a', w' => Q e a' w') a w) : (Code.scope (.seq (.label l) c)).wp P Q a w := by
  intro b k cs
  have key : ∀ n a w, μ a w = n → I a w → ∃ e a' w', Q e a' w' ∧ (∀ l, e ≠ .goto l) ∧ Arrives P (lone (b.at a (.code c :: .inScope (.seq (.label l) c) :: k)) cs w) b (.inScope (.seq (.label l) c) :: k) cs e a' w' := by
    intro n
    induction n using Nat.strongRecOn with
    | _ n ih =>
      intro a w hn hI
      obtain ⟨e, a₁, w₁, hq, harr⟩ := round a w hI b (.inScope (.seq (.label l) c) :: k) cs
      cases e with
      | goto k' =>
        obtain ⟨rfl, hI₁, hlt⟩ := hq
        obtain ⟨e₂, a₂, w₂, hq₂, hne, harr₂⟩ := ih (μ a₁ w₁) (hn ▸ hlt) a₁ w₁ rfl hI₁
        have hs := harr (.code (.seq .skip c) :: .inScope (.seq (.label k') c) :: k) (by simp [gotoIn, findLabel])
        exact ⟨e₂, a₂, w₂, hq₂, hne, .of_steps (hs.trans (.head step_seq (.one step_skip))) harr₂⟩
      | normal => exact ⟨_, a₁, w₁, hq, by simp, harr⟩
      | exit id => exact ⟨_, a₁, w₁, hq, by simp, harr⟩
      | ret => exact ⟨_, a₁, w₁, hq, by simp, harr⟩
      | panic ch => exact ⟨_, a₁, w₁, hq, by simp, harr⟩
      | outgrown => exact ⟨_, a₁, w₁, hq, by simp, harr⟩
  obtain ⟨e, a', w', hq, hne, harr⟩ := key _ a w rfl h0
  have hin : Steps P (lone (b.at a (.code (.scope (.seq (.label l) c)) :: k)) cs w) (lone (b.at a (.code c :: .inScope (.seq (.label l) c) :: k)) cs w) :=
    .head step_scope (.head step_seq (.one step_label))
  cases e with
  | normal => exact ⟨.normal, a', w', hq, hin.trans (Steps.trans harr (.one step_inScope))⟩
  | exit id => exact ⟨.exit id, a', w', hq, fun k' hk => hin.trans (harr k' (by simp [exitTo, hk]))⟩
  | goto l => exact absurd rfl (hne l)
  | ret => exact ⟨_, a', w', hq, .of_steps hin harr⟩
  | panic ch => exact ⟨_, a', w', hq, .of_steps hin harr⟩
  | outgrown => exact ⟨_, a', w', hq, .of_steps hin harr⟩

def Snd (P : Program) (X : Pan) (N : Nat) (c : Code) : Prop := ∀ (Q : Exit → Env → World → Prop) (ρ : Env) (a : Act) (w : World), codeOk N c = true → Rel N a ρ → codeP P X c Q ρ w → c.wp P (post X N Q) a w

theorem codeP_sound' {P : Program} {X : Pan} {N : Nat} (hm : P.follows .mixedOrders = true) : ∀ (c : Code), Snd P X N c ∧ ∀ l b, c = .seq (.label l) b → Snd P X N b := by
  intro c
  induction c with
  | skip =>
    refine ⟨?_, fun l b h => by cases h⟩
    intro Q ρ a w _ hr h; exact wp_skip ⟨ρ, hr, h⟩
  | label l =>
    refine ⟨?_, fun l b h => by cases h⟩
    intro Q ρ a w _ hr h; exact wp_label ⟨ρ, hr, h⟩
  | exit id =>
    refine ⟨?_, fun l b h => by cases h⟩
    intro Q ρ a w _ hr h; exact wp_exit ⟨ρ, hr, h⟩
  | ret =>
    refine ⟨?_, fun l b h => by cases h⟩
    intro Q ρ a w _ hr h; exact wp_ret ⟨ρ, hr, h⟩
  | region id ops d =>
    refine ⟨?_, fun l b h => by cases h⟩
    intro Q ρ a w hok hr h
    cases d with
    | false =>
      refine wpIn_wide.1 (wpIn_region_list (n := 0) ?_)
      exact opsP_sound (Q := post X N Q) (fun _ _ _ hd hx => ⟨hd, hx⟩) hok (fun a ρ w hr hk => ⟨ρ, hr, hk⟩) _ _ _ _ _ (fun o ho => List.all_eq_true.1 hok o ho) hr h
    | true =>
      refine wp_region_any hm (wpAny_of_W _ _ [] _ _ ?_)
      exact drawP_sound (Q := post X N Q) (fun _ _ _ hd hx => ⟨hd, hx⟩) (fun _ _ _ _ hd hx => ⟨hd.trans hx.1, hx.2⟩) hok (fun a ρ w hr hk => ⟨ρ, hr, hk⟩) _ _ _ _ _ _ (closed_none _) (fun γ hγ => by cases hγ) hr h
  | seq x y ihx ihy =>
    refine ⟨?_, fun l b h => by injection h with h1 h2; subst h2; exact ihy.1⟩
    intro Q ρ a w hok hr h
    simp only [codeOk, Bool.and_eq_true] at hok
    refine wp_seq (wp_mono (ihx.1 _ _ _ _ hok.1 hr h) fun e a' w' hq => ?_)
    cases e with
    | normal => obtain ⟨ρ', hr', hq'⟩ := hq; exact ihy.1 _ _ _ _ hok.2 hr' hq'
    | panic ch => exact hq
    | _ => exact hq
  | cond c x y ihx ihy =>
    refine ⟨?_, fun l b h => by cases h⟩
    intro Q ρ a w hok hr h
    simp only [codeOk, Bool.and_eq_true] at hok
    obtain ⟨b, hb, hq⟩ := SPLITF_elim h
    refine wp_cond (t := b) (by rw [hr.eval]; exact hb) ?_
    cases b with
    | true => exact ihx.1 _ _ _ _ hok.1 hr hq
    | false => exact ihy.1 _ _ _ _ hok.2 hr hq
  | block id b ih =>
    refine ⟨?_, fun l b h => by cases h⟩
    intro Q ρ a w hok hr h
    refine wp_block (wp_mono (ih.1 _ _ _ _ hok hr h) fun e a' w' hq => ?_)
    cases e with
    | exit k =>
      obtain ⟨ρ', hr', hq'⟩ := hq
      simp only [blockE] at hq'
      simp only [Exit.inBlock]
      by_cases hk : k = id
      · subst hk
        rw [if_pos rfl]
        have : Nat.beq k k = true := by simp
        rw [this] at hq'
        exact ⟨ρ', hr', hq'⟩
      · rw [if_neg hk]
        have : Nat.beq k id = false := by
          cases hh : Nat.beq k id with
          | false => rfl
          | true => exact absurd (Nat.eq_of_beq_eq_true hh) hk
        rw [this] at hq'
        exact ⟨ρ', hr', hq'⟩
    | panic ch => exact hq
    | _ => exact hq
  | loop b ih =>
    refine ⟨?_, fun l b h => by cases h⟩
    intro Q ρ a w hok hr h
    obtain ⟨I, μ, h0, hround⟩ := h
    refine wp_loop (fun a' w' => ∃ ρ', Rel N a' ρ' ∧ I ρ' w') (fun a' w' => μ (fun n => a'.tmps.getD n undef) w') ⟨ρ, hr, h0⟩ ?_
    rintro a' w' ⟨ρ', hr', hI⟩
    have hρ : ∀ {a : Act} {ρ : Env}, Rel N a ρ → (fun n => a.tmps.getD n undef) = ρ := fun h => funext h.get
    refine wp_mono (ih.1 _ _ _ _ hok hr' (hround ρ' w' hI)) fun e a'' w'' hq => ?_
    cases e with
    | normal =>
      obtain ⟨ρ'', hr'', hI'', hlt⟩ := hq
      exact ⟨⟨ρ'', hr'', hI''⟩, by rw [hρ hr'', hρ hr']; exact hlt⟩
    | panic ch => exact hq
    | _ => exact hq
  | goto l => exact ⟨fun Q ρ a w _ hr h => wp_goto ⟨ρ, hr, h⟩, fun l b h => by cases h⟩
  | scope body ih =>
    refine ⟨fun Q ρ a w hok hr h => ?_, fun l b h => by cases h⟩
    cases body with
    | seq x b =>
      cases x with
      | label l =>
        obtain ⟨I, μ, h0, hround⟩ := h
        refine wp_scope_round (fun a' w' => ∃ ρ', Rel N a' ρ' ∧ I ρ' w') (fun a' w' => μ (fun n => a'.tmps.getD n undef) w') ⟨ρ, hr, h0⟩ ?_
        rintro a' w' ⟨ρ', hr', hI⟩
        have hρ : ∀ {a : Act} {ρ : Env}, Rel N a ρ → (fun n => a.tmps.getD n undef) = ρ := fun h => funext h.get
        refine wp_mono (ih.2 l b rfl _ _ _ _ hok hr' (hround ρ' w' hI)) fun e a'' w'' hq => ?_
        cases e with
        | goto k =>
          obtain ⟨ρ'', hr'', hq⟩ := hq
          simp only [gotoE] at hq
          cases hh : Nat.beq k l with
          | true =>
            rw [hh] at hq
            exact ⟨Nat.eq_of_beq_eq_true hh, ⟨ρ'', hr'', hq.1⟩, by rw [hρ hr'', hρ hr']; exact hq.2⟩
          | false => rw [hh] at hq; exact hq.elim
        | panic ch => exact hq
        | _ => exact hq
      | _ => exact h.elim
    | _ => exact h.elim
  | _ => exact ⟨fun Q ρ a w _ _ h => h.elim, fun l b h => by cases h⟩

theorem codeP_sound {P : Program} {X : Pan} {N : Nat} (hm : P.follows .mixedOrders = true) (c : Code) (Q : Exit → Env → World → Prop) (ρ : Env) (a : Act) (w : World) (hok : codeOk N c = true) (hr : Rel N a ρ) (h : codeP P X c Q ρ w) :
    c.wp P (post X N Q) a w := (codeP_sound' hm c).1 Q ρ a w hok hr h

/-! ### Which slots a piece of code may write -/
def writesOps (ops : List Oper) : List Nat := ops.filterMap (·.dst)

def writes : Code → List Nat
  | .region _ ops _ => writesOps ops.toList
  | .seq a b => writes a ++ writes b
  | .cond _ x y => writes x ++ writes y
  | .block _ b => writes b
  | .loop b => writes b
  | .scope (.seq (.label _) b) => writes b
  | _ => []

def Agree (l : List Nat) (ρ ρ' : Env) : Prop := ∀ n, n ∉ l → ρ' n = ρ n

theorem Agree.refl (l : List Nat) (ρ : Env) : Agree l ρ ρ := fun _ _ => rfl
theorem Agree.trans {l : List Nat} {a b c : Env} (h : Agree l a b) (k : Agree l b c) : Agree l a c := fun n hn => (k n hn).trans (h n hn)
theorem Agree.sub {l l' : List Nat} {a b : Env} (h : Agree l a b) (hs : ∀ n, n ∈ l → n ∈ l') : Agree l' a b := fun n hn => h n (fun hm => hn (hs n hm))
theorem agree_upd {l : List Nat} (ρ : Env) {d : Option Tmp} (v : Value) (h : ∀ t, d = some t → t ∈ l) : Agree l ρ (upd ρ d v) := by
  intro n hn
  cases d with
  | none => rfl
  | some t =>
    simp only [upd]
    have : Nat.beq n t = false := by
      cases hh : Nat.beq n t with
      | false => rfl
      | true => exact absurd (Nat.eq_of_beq_eq_true hh ▸ h t rfl) hn
    rw [this]; rfl

theorem RUN_mono {P : Program} {X : Pan} {s : Sem Value} {w : World} {K K' : Value → World → Prop} (h : RUN P X s w K) (hk : ∀ v w', K v w' → K' v w') : RUN P X s w K' := by
  unfold RUN at *; split <;> simp_all
theorem RUNU_mono {P : Program} {X : Pan} {s : Sem Unit} {w : World} {K K' : World → Prop} (h : RUNU P X s w K) (hk : ∀ w', K w' → K' w') : RUNU P X s w K' := by
  unfold RUNU at *; split <;> simp_all
theorem RUNN_mono {P : Program} {X : Pan} {s : Sem Next} {w : World} {K K' : Value → World → Prop} (h : RUNN P X s w K) (hk : ∀ v w', K v w' → K' v w') : RUNN P X s w K' := by
  unfold RUNN at *
  split at h
  · exact hk _ _ h
  · exact hk _ _ h
  · exact h.mono fun e w'' he => by cases e <;> first | exact hk _ _ he | exact he
  · exact h.mono fun v w'' hv => hk _ _ hv
  · exact h
  · exact h.elim
theorem CALLV_mono {P : Program} {X : Pan} {f : Value} {args : List Value} {w : World} {K K' : Value → World → Prop} (h : CALLV P X f args w K) (hk : ∀ v w', K v w' → K' v w') : CALLV P X f args w K' := by
  unfold CALLV at *
  split at h
  · unfold CALL at *; exact RUNN_mono h hk
  · exact h.elim
theorem PICK_mono {c a b : Value} {K K' : Value → Prop} (h : PICK c a b K) (hk : ∀ v, K v → K' v) : PICK c a b K' := by
  unfold PICK at *
  split at h
  · exact hk _ h
  · exact h.elim
theorem NILC_mono {c : Value} {K K' : Value → Prop} (h : NILC c K) (hk : ∀ v, K v → K' v) : NILC c K' := by
  unfold NILC at *
  split at h <;> first | exact h.elim | exact hk _ h
theorem SPLITF_mono {v : Value} {F F' : Bool → Prop} (h : SPLITF v F) (hk : ∀ b, F b → F' b) : SPLITF v F' := by
  obtain ⟨b, rfl, hb⟩ := SPLITF_elim h
  cases b <;> exact hk _ hb
theorem GOK_mono {g : Value} {want : Bool} {A B A' B' : Prop} (h : GOK g want A B) (ha : A → A') (hb : B → B') : GOK g want A' B' := by
  unfold GOK at *
  split at h
  · exact ha h
  · exact ha h
  · exact hb h
theorem opP_mono {P : Program} {X : Pan} {op : Op} {ty : TypeId} {e : Operand → Value} {w : World} {K K' : Value → World → Prop} (h : opP P X op ty e w K) (hk : ∀ v w', K v w' → K' v w') : opP P X op ty e w K' := by
  cases op with
  | move x => exact hk _ _ h
  | assign x => exact hk _ _ h
  | pick c a b => exact PICK_mono (K := fun v => K v w) h fun v hv => hk _ _ hv
  | nilCheck x => exact NILC_mono (K := fun v => K v w) h fun v hv => hk _ _ hv
  | box t x => exact RUN_mono (P := P) (X := X) (s := Instr.box t (e x)) h hk
  | makeFunc fn f c => exact RUN_mono (P := P) (X := X) (s := Instr.makeFunc fn (f.toList.map e).toArray (c.toList.map e).toArray) h hk
  | store t a x => exact RUNU_mono h fun w' hw => hk _ _ hw
  | mapUpdate t a x y => exact RUNU_mono h fun w' hw => hk _ _ hw
  | insert t a x y => exact RUNU_mono h fun w' hw => hk _ _ hw
  | entryStore t a x y => exact RUNU_mono h fun w' hw => hk _ _ hw
  | call c =>
    obtain ⟨callee, args, argTypes⟩ := c
    cases callee with
    | value f => exact CALLV_mono h hk
    | invoke r m => exact h
    | builtin b => cases b <;> first | exact RUN_mono h hk | exact (h : False).elim
  | _ => first | exact RUN_mono h hk | exact (h : False).elim

theorem CALLY_mono {P : Program} {X : Pan} {f : Value} {args : List Value} {w : World} {K K' : Value → World → Prop} (h : CALLY P X f args w K) (hk : ∀ v w', K v w' → K' v w') : CALLY P X f args w K' := by
  unfold CALLY at *
  split at h
  · unfold CALL at *; exact RUNN_mono h hk
  · obtain ⟨fn, tmps, assign, body, hrun, hr⟩ := h
    exact ⟨fn, tmps, assign, body, hrun, hr.mono fun e w' he => by cases e <;> first | exact hk _ _ he | exact he⟩
  · exact h.elim
theorem opQ_mono {P : Program} {X : Pan} {op : Op} {ty : TypeId} {e : Operand → Value} {w : World} {K K' : Value → World → Prop} (h : opQ P X op ty e w K) (hk : ∀ v w', K v w' → K' v w') : opQ P X op ty e w K' := by
  unfold opQ at *
  split at h
  · exact CALLY_mono h hk
  · exact opP_mono h hk

theorem readP_mono {P : Program} {op : Op} {ty : TypeId} {e : Operand → Value} {w : World} {K K' : Value → Option (World → Prop) → Prop} (h : readP P op ty e w K) (hk : ∀ v f, K v f → K' v f) : readP P op ty e w K' := by
  have k1 : ∀ {s : Sem Value}, (PUR P s fun v => K v none) → PUR P s fun v => K' v none := fun h => let ⟨v, hv, h⟩ := PUR_elim h; PUR_intro v hv (hk _ _ h)
  have k2 : ∀ {s : Sem Value}, (LD P s w fun v => K v (some fun w' => s.run P w' = .ok v w')) → LD P s w fun v => K' v (some fun w' => s.run P w' = .ok v w') := fun h => let ⟨v, hv, h⟩ := LD_elim h; LD_intro v hv (hk _ _ h)
  cases op with
  | move x => exact hk _ _ h
  | assign x => exact hk _ _ h
  | pick c a b => exact PICK_mono (K := fun v => K v none) h fun v hv => hk _ _ hv
  | nilCheck x => exact NILC_mono (K := fun v => K v none) h fun v hv => hk _ _ hv
  | call c =>
    obtain ⟨callee, args, argTypes⟩ := c
    cases callee with
    | value f => exact h.elim
    | invoke r m => exact h.elim
    | builtin b => cases b <;> first | exact k2 h | exact h.elim
  | _ => first | exact k1 h | exact k2 h | exact (h : False).elim

theorem opsP_mono {P : Program} {X : Pan} {ops : Array Oper} {l : List Nat} {K K' : Env → World → Prop} : ∀ (os : List Oper) (k : Nat) (ρ : Env) (w : World), (∀ o ∈ os, ∀ t, o.dst = some t → t ∈ l) →
    opsP P X ops k os ρ w K → (∀ ρ' w', Agree l ρ ρ' → K ρ' w' → K' ρ' w') → opsP P X ops k os ρ w K' := by
  intro os
  induction os with
  | nil => intro k ρ w _ h hk; exact hk _ _ (.refl _ _) h
  | cons o os ih =>
    intro k ρ w hin h hk
    have ho := hin o (by simp)
    have hos : ∀ o ∈ os, ∀ t, o.dst = some t → t ∈ l := fun o h => hin o (by simp [h])
    have step : ∀ v w', opsP P X ops (k + 1) os (upd ρ o.dst v) w' K → opsP P X ops (k + 1) os (upd ρ o.dst v) w' K' := fun v w' hh =>
      ih _ _ _ hos hh fun ρ' w' ha hq => hk _ _ ((agree_upd ρ v ho).trans ha) hq
    have run : (opQ P X o.op o.type (ev ρ) w fun v w' => match isGuard ops k with
        | true => SPLITF v fun b => opsP P X ops (k + 1) os (upd ρ o.dst (.bool b)) w' K
        | false => opsP P X ops (k + 1) os (upd ρ o.dst v) w' K) → (opQ P X o.op o.type (ev ρ) w fun v w' => match isGuard ops k with
        | true => SPLITF v fun b => opsP P X ops (k + 1) os (upd ρ o.dst (.bool b)) w' K'
        | false => opsP P X ops (k + 1) os (upd ρ o.dst v) w' K') := fun hh => opQ_mono hh fun v w' hv => by
      split at hv
      · exact SPLITF_mono hv fun b hb => step _ _ hb
      · exact step _ _ hv
    unfold opsP at h ⊢
    cases hg : o.guard with
    | none => rw [hg] at h; exact run h
    | some g => rw [hg] at h; exact GOK_mono h run (step _ _)

theorem HOLDS_mono : ∀ {Γ : Facts} {w : World} {B B' : Prop}, HOLDS Γ w B → (B → B') → HOLDS Γ w B'
  | [], _, _, _, h, hb => hb h
  | _ :: _, _, _, _, h, hb => ⟨h.1, HOLDS_mono h.2 hb⟩

theorem ALLC_mono : ∀ {l : List Nat} {f g : Nat → Prop}, ALLC l f → (∀ i, f i → g i) → ALLC l g
  | [], _, _, _, _ => trivial
  | [_], _, _, h, hk => hk _ h
  | _ :: _ :: _, _, _, h, hk => ⟨hk _ h.1, ALLC_mono h.2 hk⟩

theorem drawP_mono {P : Program} {X : Pan} {ops : Array Oper} {l : List Nat} {K K' : Env → World → Prop} (hin : ∀ o ∈ ops.toList, ∀ t, o.dst = some t → t ∈ l) : ∀ (n : Nat) (L : Array Bool) (Γ : Facts) (ρ : Env) (w : World),
    drawP P X ops n L Γ ρ w K → (∀ ρ' w', Agree l ρ ρ' → K ρ' w' → K' ρ' w') → drawP P X ops n L Γ ρ w K' := by
  intro n
  induction n with
  | zero =>
    intro L Γ ρ w h hk
    unfold drawP at h ⊢
    split at h
    · exact hk _ _ (.refl _ _) h
    · exact h.elim
  | succ n ih =>
    intro L Γ ρ w h hk
    have step : ∀ {i : Nat} {o : Oper}, ops.toList[i]? = some o → ∀ L Γ v w', drawP P X ops n L Γ (upd ρ o.dst v) w' K → drawP P X ops n L Γ (upd ρ o.dst v) w' K' := fun ho L Γ v w' hh =>
      ih _ _ _ _ hh fun ρ' w' ha hq => hk _ _ ((agree_upd ρ v (hin _ (List.mem_of_getElem? ho))).trans ha) hq
    unfold drawP at h ⊢
    split at h
    · rename_i i hfind
      cases ho : ops.toList[i]? with
      | none => rw [ho] at h; exact h.elim
      | some o =>
        rw [ho] at h
        simp only at h ⊢
        have run : (readP P o.op o.type (ev ρ) w fun v f => match isGuard ops i with
            | true => SPLITF v fun b => drawP P X ops n (L.setIfInBounds i true) (addF i f Γ) (upd ρ o.dst (.bool b)) w K
            | false => drawP P X ops n (L.setIfInBounds i true) (addF i f Γ) (upd ρ o.dst v) w K) → (readP P o.op o.type (ev ρ) w fun v f => match isGuard ops i with
            | true => SPLITF v fun b => drawP P X ops n (L.setIfInBounds i true) (addF i f Γ) (upd ρ o.dst (.bool b)) w K'
            | false => drawP P X ops n (L.setIfInBounds i true) (addF i f Γ) (upd ρ o.dst v) w K') := fun hh => readP_mono hh fun v f hv => by
          split at hv
          · exact SPLITF_mono hv fun b hb => step ho _ _ _ _ hb
          · exact step ho _ _ _ _ hv
        cases hg : o.guard with
        | none => rw [hg] at h; exact run h
        | some g => rw [hg] at h; exact GOK_mono h run (step ho _ _ _ _)
    · split at h
      · exact hk _ _ (.refl _ _) h
      · refine ALLC_mono h fun i hi => ?_
        cases ho : ops.toList[i]? with
        | none => rw [ho] at hi; exact hi.elim
        | some o =>
          rw [ho] at hi
          simp only at hi ⊢
          have run : (opP P X o.op o.type (ev ρ) w fun v w' =>
            HOLDS (drop ops i Γ) w' (match isGuard ops i with
              | true => SPLITF v fun b => drawP P X ops n (L.setIfInBounds i true) (drop ops i Γ) (upd ρ o.dst (.bool b)) w' K
              | false => drawP P X ops n (L.setIfInBounds i true) (drop ops i Γ) (upd ρ o.dst v) w' K)) → (opP P X o.op o.type (ev ρ) w fun v w' =>
            HOLDS (drop ops i Γ) w' (match isGuard ops i with
              | true => SPLITF v fun b => drawP P X ops n (L.setIfInBounds i true) (drop ops i Γ) (upd ρ o.dst (.bool b)) w' K'
              | false => drawP P X ops n (L.setIfInBounds i true) (drop ops i Γ) (upd ρ o.dst v) w' K')) := fun hh => opP_mono hh fun v w' hv => HOLDS_mono hv fun hv => by
            split at hv
            · exact SPLITF_mono hv fun b hb => step ho _ _ _ _ hb
            · exact step ho _ _ _ _ hv
          cases hg : o.guard with
          | none => rw [hg] at hi; exact run hi
          | some g => rw [hg] at hi; exact GOK_mono hi run (step ho _ _ _ _)

def Mon (P : Program) (X : Pan) (c : Code) : Prop := ∀ (Q Q' : Exit → Env → World → Prop) (ρ : Env) (w : World), codeP P X c Q ρ w → (∀ e ρ' w', Agree (writes c) ρ ρ' → Q e ρ' w' → Q' e ρ' w') → codeP P X c Q' ρ w

theorem codeP_mono' {P : Program} {X : Pan} : ∀ (c : Code), Mon P X c ∧ ∀ l b, c = .seq (.label l) b → Mon P X b := by
  intro c
  induction c with
  | skip =>
    refine ⟨?_, fun l b h => by cases h⟩
    intro Q Q' ρ w h hk; exact hk _ _ _ (.refl _ _) h
  | label l =>
    refine ⟨?_, fun l b h => by cases h⟩
    intro Q Q' ρ w h hk; exact hk _ _ _ (.refl _ _) h
  | exit id =>
    refine ⟨?_, fun l b h => by cases h⟩
    intro Q Q' ρ w h hk; exact hk _ _ _ (.refl _ _) h
  | ret =>
    refine ⟨?_, fun l b h => by cases h⟩
    intro Q Q' ρ w h hk; exact hk _ _ _ (.refl _ _) h
  | region id ops d =>
    refine ⟨?_, fun l b h => by cases h⟩
    intro Q Q' ρ w h hk
    have hin : ∀ o ∈ ops.toList, ∀ t, o.dst = some t → t ∈ writes (.region id ops d) := fun o ho t ht => List.mem_filterMap.2 ⟨o, ho, ht⟩
    cases d with
    | false => exact opsP_mono _ _ _ _ hin h fun ρ' w' ha hq => hk _ _ _ ha hq
    | true => exact drawP_mono hin _ _ _ _ _ h fun ρ' w' ha hq => hk _ _ _ ha hq
  | seq x y ihx ihy =>
    refine ⟨?_, fun l b h => by injection h with h1 h2; subst h2; exact ihy.1⟩
    intro Q Q' ρ w h hk
    refine ihx.1 _ _ _ _ h fun e ρ' w' ha hq => ?_
    have hl : Agree (writes (.seq x y)) ρ ρ' := ha.sub fun n hn => List.mem_append_left _ hn
    cases e with
    | normal => exact ihy.1 _ _ _ _ hq fun e ρ'' w'' hb hq => hk _ _ _ (hl.trans (hb.sub fun n hn => List.mem_append_right _ hn)) hq
    | _ => exact hk _ _ _ hl hq
  | cond c x y ihx ihy =>
    refine ⟨?_, fun l b h => by cases h⟩
    intro Q Q' ρ w h hk
    refine SPLITF_mono h fun b hb => ?_
    cases b with
    | true => exact ihx.1 _ _ _ _ hb fun e ρ' w' ha hq => hk _ _ _ (ha.sub fun n hn => List.mem_append_left _ hn) hq
    | false => exact ihy.1 _ _ _ _ hb fun e ρ' w' ha hq => hk _ _ _ (ha.sub fun n hn => List.mem_append_right _ hn) hq
  | block id b ih =>
    refine ⟨?_, fun l b h => by cases h⟩
    intro Q Q' ρ w h hk
    refine ih.1 _ _ _ _ h fun e ρ' w' ha hq => ?_
    cases e with
    | exit k =>
      simp only [blockE] at hq ⊢
      cases hh : Nat.beq k id <;> rw [hh] at hq <;> exact hk _ _ _ ha hq
    | _ => exact hk _ _ _ ha hq
  | loop b ih =>
    refine ⟨?_, fun l b h => by cases h⟩
    intro Q Q' ρ w h hk
    obtain ⟨I, μ, h0, hr⟩ := h
    refine ⟨fun ρ' w' => I ρ' w' ∧ Agree (writes b) ρ ρ', μ, ⟨h0, .refl _ _⟩, fun ρ' w' ⟨hI, hA⟩ => ?_⟩
    refine ih.1 _ _ _ _ (hr ρ' w' hI) fun e ρ'' w'' ha hq => ?_
    cases e with
    | normal => exact ⟨⟨hq.1, hA.trans ha⟩, hq.2⟩
    | _ => exact hk _ _ _ (hA.trans ha) hq
  | goto l => exact ⟨fun Q Q' ρ w h hk => hk _ _ _ (.refl _ _) h, fun l b h => by cases h⟩
  | scope body ih =>
    refine ⟨fun Q Q' ρ w h hk => ?_, fun l b h => by cases h⟩
    cases body with
    | seq x b =>
      cases x with
      | label l =>
        obtain ⟨I, μ, h0, hr⟩ := h
        refine ⟨fun ρ' w' => I ρ' w' ∧ Agree (writes b) ρ ρ', μ, ⟨h0, .refl _ _⟩, fun ρ' w' ⟨hI, hA⟩ => ?_⟩
        refine ih.2 l b rfl _ _ _ _ (hr ρ' w' hI) fun e ρ'' w'' ha hq => ?_
        cases e with
        | goto k =>
          simp only [gotoE] at hq ⊢
          cases hh : Nat.beq k l with
          | true => rw [hh] at hq; exact ⟨⟨hq.1, hA.trans ha⟩, hq.2⟩
          | false => rw [hh] at hq; exact hq
        | _ => exact hk _ _ _ (hA.trans ha) hq
      | _ => exact h.elim
    | _ => exact h.elim
  | _ => exact ⟨fun Q Q' ρ w h _ => h.elim, fun l b h => by cases h⟩

theorem codeP_mono {P : Program} {X : Pan} (c : Code) (Q Q' : Exit → Env → World → Prop) (ρ : Env) (w : World) (h : codeP P X c Q ρ w) (hk : ∀ e ρ' w', Agree (writes c) ρ ρ' → Q e ρ' w' → Q' e ρ' w') : codeP P X c Q' ρ w :=
  (codeP_mono' c).1 Q Q' ρ w h hk

/-! ### What the printed texts go by -/
def look (l : List (Nat × (Env → World → Prop))) (id : Nat) : Env → World → Prop :=
  match l with
  | [] => fun _ _ => False
  | (k, q) :: l => cond (Nat.beq k id) q (look l id)

/-- The posts by exit: behind the end; at a return; at each block that may be left. -/
def QX (n r : Env → World → Prop) (l : List (Nat × (Env → World → Prop))) : Exit → Env → World → Prop
  | .normal => n
  | .ret => r
  | .exit id => look l (2 * id)
  | .goto k => look l (2 * k + 1)
  | _ => fun _ _ => False

theorem beq_ne {a b : Nat} (h : a ≠ b) : Nat.beq a b = false := by
  cases h3 : Nat.beq a b with
  | false => rfl
  | true => exact absurd (Nat.eq_of_beq_eq_true h3) h

theorem look_none : ∀ (l : List (Nat × (Env → World → Prop))) (id : Nat), (∀ e ∈ l, e.1 ≠ id) → look l id = fun _ _ => False
  | [], _, _ => rfl
  | e :: l, id, h => by
    unfold look
    simp only [beq_ne (h e (by simp)), cond_false]
    exact look_none l id fun e he => h e (by simp [he])

theorem evenKeys {l : List (Nat × (Env → World → Prop))} (h : (l.all fun e => Nat.beq (e.1 % 2) 0) = true) : ∀ e ∈ l, e.1 % 2 = 0 := fun e he => Nat.eq_of_beq_eq_true (List.all_eq_true.1 h e he)

/-- A labelled scope: label k is exit number '2 * k + 1'; block k is exit number '2 * k'. -/
theorem scopeQ {P : Program} {X : Pan} {ρ : Env} {w : World} {n r : Env → World → Prop} {l : List (Nat × (Env → World → Prop))} {k : Nat} {b : Code} (I : Env → World → Prop) (μ : Env → World → Nat) (h0 : I ρ w)
    (hl : ∀ e ∈ l, e.1 % 2 = 0)
    (hr : ∀ ρ' w', Agree (writes b) ρ ρ' → I ρ' w' → codeP P X b (QX n r ((2 * k + 1, fun ρ'' w'' => I ρ'' w'' ∧ μ ρ'' w'' < μ ρ' w') :: l)) ρ' w') : codeP P X (.scope (.seq (.label k) b)) (QX n r l) ρ w := by
  refine ⟨fun ρ' w' => I ρ' w' ∧ Agree (writes b) ρ ρ', μ, ⟨h0, .refl _ _⟩, fun ρ' w' ⟨hI, hA⟩ => ?_⟩
  refine codeP_mono _ _ _ _ _ (hr ρ' w' hA hI) fun e ρ'' w'' ha hq => ?_
  cases e with
  | goto j =>
    simp only [QX, look, gotoE] at hq ⊢
    by_cases hj : j = k
    · subst hj
      have h1 : Nat.beq (2 * j + 1) (2 * j + 1) = true := by simp
      have h2 : Nat.beq j j = true := by simp
      rw [h1] at hq
      rw [h2]
      exact ⟨⟨hq.1, hA.trans ha⟩, hq.2⟩
    · rw [beq_ne (show 2 * k + 1 ≠ 2 * j + 1 by omega)] at hq
      simp only [cond_false] at hq
      rw [look_none l _ (fun e he => by have := hl e he; omega)] at hq
      exact hq.elim
  | exit id =>
    simp only [QX, look] at hq ⊢
    rw [beq_ne (show 2 * k + 1 ≠ 2 * id by omega)] at hq
    exact hq
  | _ => exact hq

section
variable {P : Program} {X : Pan} {ρ : Env} {w : World} {n r : Env → World → Prop} {l : List (Nat × (Env → World → Prop))}

theorem seqQ {x y : Code} (K : Env → World → Prop) (h : codeP P X x (QX K r l) ρ w) (hy : ∀ ρ w, K ρ w → codeP P X y (QX n r l) ρ w) : codeP P X (.seq x y) (QX n r l) ρ w := by
  unfold codeP
  exact codeP_mono x _ _ _ _ h fun e ρ' w' _ hq => by cases e <;> first | exact hy _ _ hq | exact hq

theorem blockQ {id : Nat} {b : Code} (h : codeP P X b (QX n r ((2 * id, n) :: l)) ρ w) : codeP P X (.block id b) (QX n r l) ρ w := by
  unfold codeP
  refine codeP_mono b _ _ _ _ h fun e ρ' w' _ hq => ?_
  cases e with
  | exit k =>
    simp only [QX, look, blockE] at hq ⊢
    by_cases hk : k = id
    · subst hk
      have h1 : Nat.beq (2 * k) (2 * k) = true := by simp
      have h2 : Nat.beq k k = true := by simp
      rw [h1] at hq
      rw [h2]
      exact hq
    · rw [beq_ne (show 2 * id ≠ 2 * k by omega)] at hq
      rw [beq_ne hk]
      exact hq
  | goto k =>
    simp only [QX, look] at hq
    rw [beq_ne (show 2 * id ≠ 2 * k + 1 by omega)] at hq
    exact hq
  | _ => exact hq

theorem loopQ {b : Code} (I : Env → World → Prop) (μ : Env → World → Nat) (h0 : I ρ w)
    (hr : ∀ ρ' w', Agree (writes b) ρ ρ' → I ρ' w' → codeP P X b (QX (fun ρ'' w'' => I ρ'' w'' ∧ μ ρ'' w'' < μ ρ' w') r l) ρ' w') : codeP P X (.loop b) (QX n r l) ρ w := by
  refine ⟨fun ρ' w' => I ρ' w' ∧ Agree (writes b) ρ ρ', μ, ⟨h0, .refl _ _⟩, fun ρ' w' ⟨hI, hA⟩ => ?_⟩
  refine codeP_mono _ _ _ _ _ (hr ρ' w' hA hI) fun e ρ'' w'' ha hq => ?_
  cases e with
  | normal => exact ⟨⟨hq.1, hA.trans ha⟩, hq.2⟩
  | _ => exact hq

theorem condQ {c : Operand} {x y : Code} {b : Bool} (hb : ev ρ c = .bool b) (hx : b = true → codeP P X x (QX n r l) ρ w) (hy : b = false → codeP P X y (QX n r l) ρ w) : codeP P X (.cond c x y) (QX n r l) ρ w := by
  unfold codeP
  rw [hb]
  cases b with
  | true => exact hx rfl
  | false => exact hy rfl
end

theorem condQ' {P : Program} {X : Pan} {ρ : Env} {w : World} {n r : Env → World → Prop} {l : List (Nat × (Env → World → Prop))} {c : Operand} {x y : Code} {A B : Prop} (h : SPLITF (ev ρ c) fun b => cond b A B)
    (hx : A → codeP P X x (QX n r l) ρ w) (hy : B → codeP P X y (QX n r l) ρ w) : codeP P X (.cond c x y) (QX n r l) ρ w := by
  obtain ⟨b, hb, hq⟩ := SPLITF_elim h
  refine condQ hb (fun h => hx (by rw [h] at hq; exact hq)) (fun h => hy (by rw [h] at hq; exact hq))

/-! ### Pieces of code by their place -/
def bodyOf (f : Func) : Code := match f.body with | some c => c | none => .skip
def fstC : Code → Code | .seq a _ => a | c => c
def sndC : Code → Code | .seq _ b => b | c => c
def thnC : Code → Code | .cond _ a _ => a | c => c
def elsC : Code → Code | .cond _ _ b => b | c => c
def blkC : Code → Code | .block _ a => a | c => c
def scopeC : Code → Code | .scope a => a | c => c
def loopC : Code → Code | .loop a => a | c => c
/-- The first n + 1 statements. -/
def preC : Nat → Code → Code
  | 0, .seq a _ => a
  | n + 1, .seq a b => .seq a (preC n b)
  | _, c => c
/-- What stands behind the first n statements. -/
def dropC : Nat → Code → Code
  | 0, c => c
  | n + 1, .seq _ b => dropC n b
  | _, c => c
def appC : Nat → Code → Code → Code
  | n + 1, .seq a b, d => .seq a (appC n b d)
  | _, c, d => .seq c d

theorem appQ {P : Program} {X : Pan} {n r : Env → World → Prop} {l : List (Nat × (Env → World → Prop))} {d : Code} (K : Env → World → Prop) : ∀ (k : Nat) {c : Code} {ρ : Env} {w : World}, codeP P X c (QX K r l) ρ w →
    (∀ ρ w, K ρ w → codeP P X d (QX n r l) ρ w) → codeP P X (appC k c d) (QX n r l) ρ w := by
  intro k
  induction k with
  | zero => intro c ρ w h hd; unfold appC; exact seqQ K h hd
  | succ k ih =>
    intro c ρ w h hd
    cases c with
    | seq a b =>
      unfold appC codeP
      unfold codeP at h
      exact codeP_mono a _ _ _ _ h fun e ρ' w' _ hq => by cases e <;> first | exact ih hq hd | exact hq
    | _ => exact seqQ K h hd

theorem notElem {n : Nat} {l : List Nat} (h : l.elem n = false) : n ∉ l := fun hm => by
  rw [List.elem_eq_true_of_mem hm] at h; cases h

theorem Agree.at {l : List Nat} {ρ ρ' : Env} (h : Agree l ρ ρ') (n : Nat) (hn : l.elem n = false) : ρ' n = ρ n := h n (notElem hn)

def pan (R : Ending → World → Prop) : Pan := fun ch w => R (.panicked ch) w

/-- A call of function 'f' comes to its body. -/
def Enters (P : Program) (f : FuncId) : Prop := ∀ args w, (callFunc f args).run P w = .ok (.enter f args) w

/-- From the slots to the call. -/
theorem calls_of {P : Program} {f : FuncId} {fn : Func} {c : Code} (hm : P.follows .mixedOrders = true) (hf : P.funcs[f]? = some fn) (hb : fn.body = some c) (hok : codeOk fn.ntmps c = true)
    {args : List Value} (hargs : args.length ≤ fn.ntmps) {w : World} {R : Ending → World → Prop} (K : Env → World → Prop)
    (hres : ∀ a ρ w, Rel fn.ntmps a ρ → K ρ w → ∃ v, (results fn a.tmps).run P w = .ok v w ∧ R (.returned v) w)
    (h : codeP P (pan R) c (QX K K []) (envOf args) w) :
    Calls P f args.toArray w R := by
  refine calls_of_wp hf hb (wp_mono (codeP_sound hm c _ _ _ w hok ?_ h) fun e a w' hq => ?_)
  · refine ⟨by simp; omega, fun n => ?_, rfl⟩
    simp only [envOf, Array.getD_eq_getD_getElem?, List.getD_eq_getElem?_getD, Array.getElem?_append, List.size_toArray, List.getElem?_toArray, Array.getElem?_replicate]
    by_cases hn : n < args.length
    · rw [if_pos hn]
    · rw [if_neg hn, List.getElem?_eq_none (by omega)]
      split <;> rfl
  · cases e with
    | panic ch => exact hq
    | normal =>
      obtain ⟨ρ, hr, hK⟩ := hq
      exact ⟨hr.defers, hres _ _ _ hr hK⟩
    | ret =>
      obtain ⟨ρ, hr, hK⟩ := hq
      exact ⟨hr.defers, hres _ _ _ hr hK⟩
    | exit id => obtain ⟨ρ, hr, hq⟩ := hq; exact hq.elim
    | goto id => obtain ⟨ρ, hr, hq⟩ := hq; exact hq.elim
    | outgrown => obtain ⟨ρ, hr, hq⟩ := hq; exact hq.elim

theorem load_at {P : Program} {tmps : Array Value} {a t : Nat} {w : World} {v : Value} (h : (Instr.loadAt t (tmps.getD a undef)).run P w = .ok v w) :
    ∃ p, tmps[a]?.getD undef = .pointer (some p) ∧ (loadVar t p).run P w = .ok v w := by
  rw [Array.getD_eq_getD_getElem?] at h
  unfold Instr.loadAt Instr.sureAddr at h
  cases hx : tmps[a]?.getD undef with
  | pointer p =>
    rw [hx] at h
    cases p with
    | none => simp [Sem.run_bind, stuck] at h
    | some p => exact ⟨p, rfl, by simpa [Sem.run_bind] using h⟩
  | _ => rw [hx] at h; simp [Sem.run_bind, stuck] at h

section
variable {P : Program} {f : FuncId} {fn : Func} {c : Code} (hm : P.follows .mixedOrders = true) (hf : P.funcs[f]? = some fn) (hb : fn.body = some c) (hok : codeOk fn.ntmps c = true)
  {args : List Value} (hargs : args.length ≤ fn.ntmps) {w : World} {R : Ending → World → Prop}
  include hm hf hb hok hargs

theorem calls_of_0 (hr : fn.results = #[]) (h : codeP P (pan R) c (QX (fun _ w => R (.returned (.tuple #[])) w) (fun _ w => R (.returned (.tuple #[])) w) []) (envOf args) w) : Calls P f args.toArray w R :=
  calls_of hm hf hb hok hargs _ (fun _ _ _ _ hR => ⟨_, results_none hr _ _ _, hR⟩) h
theorem calls_of_t {t : Nat} (hr : fn.results = #[.tmp t]) (h : codeP P (pan R) c (QX (fun ρ w => R (.returned (ρ t)) w) (fun ρ w => R (.returned (ρ t)) w) []) (envOf args) w) : Calls P f args.toArray w R :=
  calls_of hm hf hb hok hargs _ (fun a ρ w hrel hR => ⟨_, results_tmp hr _ _ _, by rw [hrel.get]; exact hR⟩) h
theorem calls_of_tt {t u : Nat} (hr : fn.results = #[.tmp t, .tmp u]) (h : codeP P (pan R) c (QX (fun ρ w => R (.returned (.tuple #[ρ t, ρ u])) w) (fun ρ w => R (.returned (.tuple #[ρ t, ρ u])) w) []) (envOf args) w) : Calls P f args.toArray w R :=
  calls_of hm hf hb hok hargs _ (fun a ρ w hrel hR => ⟨_, results_tmp2 hr _ _ _, by rw [hrel.get, hrel.get]; exact hR⟩) h
theorem calls_of_tttt {t u v x : Nat} (hr : fn.results = #[.tmp t, .tmp u, .tmp v, .tmp x]) (h : codeP P (pan R) c (QX (fun ρ w => R (.returned (.tuple #[ρ t, ρ u, ρ v, ρ x])) w) (fun ρ w => R (.returned (.tuple #[ρ t, ρ u, ρ v, ρ x])) w) []) (envOf args) w) : Calls P f args.toArray w R :=
  calls_of hm hf hb hok hargs _ (fun a ρ w hrel hR => ⟨.tuple #[ρ t, ρ u, ρ v, ρ x], by simp only [← hrel.get]; simp [results, hr], hR⟩) h

theorem calls_of_c {a t : Nat} (hr : fn.results = #[.cell a t]) (h : codeP P (pan R) c (QX (fun ρ w => LD P (Instr.loadAt t (ρ a)) w fun r0 => R (.returned r0) w) (fun ρ w => LD P (Instr.loadAt t (ρ a)) w fun r0 => R (.returned r0) w) []) (envOf args) w) : Calls P f args.toArray w R :=
  calls_of hm hf hb hok hargs _ (fun a ρ w hrel hR => by
    obtain ⟨v, hv, hR⟩ := LD_elim hR
    rw [← hrel.get] at hv
    obtain ⟨p, hp, k⟩ := load_at hv
    exact ⟨v, by simp [results, hr, asAddr, hp, k], hR⟩) h
theorem calls_of_ct {a0 t0 u1 : Nat} (hr : fn.results = #[.cell a0 t0, .tmp u1]) (h : codeP P (pan R) c (QX (fun ρ w => LD P (Instr.loadAt t0 (ρ a0)) w fun r0 => R (.returned (.tuple #[r0, ρ u1])) w) (fun ρ w => LD P (Instr.loadAt t0 (ρ a0)) w fun r0 => R (.returned (.tuple #[r0, ρ u1])) w) []) (envOf args) w) : Calls P f args.toArray w R :=
  calls_of hm hf hb hok hargs _ (fun a ρ w hrel hR => by
    obtain ⟨r0, h0, hR⟩ := LD_elim hR
    rw [← hrel.get] at h0
    obtain ⟨p0, q0, k0⟩ := load_at h0
    refine ⟨.tuple #[r0, ρ u1], ?_, hR⟩
    simp only [← hrel.get]
    simp [results, hr, asAddr, k0, q0]) h
theorem calls_of_cc {a0 t0 a1 t1 : Nat} (hr : fn.results = #[.cell a0 t0, .cell a1 t1]) (h : codeP P (pan R) c (QX (fun ρ w => LD P (Instr.loadAt t0 (ρ a0)) w fun r0 => LD P (Instr.loadAt t1 (ρ a1)) w fun r1 => R (.returned (.tuple #[r0, r1])) w) (fun ρ w => LD P (Instr.loadAt t0 (ρ a0)) w fun r0 => LD P (Instr.loadAt t1 (ρ a1)) w fun r1 => R (.returned (.tuple #[r0, r1])) w) []) (envOf args) w) : Calls P f args.toArray w R :=
  calls_of hm hf hb hok hargs _ (fun a ρ w hrel hR => by
    obtain ⟨r0, h0, hR⟩ := LD_elim hR
    rw [← hrel.get] at h0
    obtain ⟨p0, q0, k0⟩ := load_at h0
    obtain ⟨r1, h1, hR⟩ := LD_elim hR
    rw [← hrel.get] at h1
    obtain ⟨p1, q1, k1⟩ := load_at h1
    refine ⟨.tuple #[r0, r1], ?_, hR⟩
    simp [results, hr, asAddr, k0, k1, q0, q1]) h
theorem calls_of_tc {u0 a1 t1 : Nat} (hr : fn.results = #[.tmp u0, .cell a1 t1]) (h : codeP P (pan R) c (QX (fun ρ w => LD P (Instr.loadAt t1 (ρ a1)) w fun r1 => R (.returned (.tuple #[ρ u0, r1])) w) (fun ρ w => LD P (Instr.loadAt t1 (ρ a1)) w fun r1 => R (.returned (.tuple #[ρ u0, r1])) w) []) (envOf args) w) : Calls P f args.toArray w R :=
  calls_of hm hf hb hok hargs _ (fun a ρ w hrel hR => by
    obtain ⟨r1, h1, hR⟩ := LD_elim hR
    rw [← hrel.get] at h1
    obtain ⟨p1, q1, k1⟩ := load_at h1
    refine ⟨.tuple #[ρ u0, r1], ?_, hR⟩
    simp only [← hrel.get]
    simp [results, hr, asAddr, k1, q1]) h
theorem calls_of_ctt {a0 t0 u1 u2 : Nat} (hr : fn.results = #[.cell a0 t0, .tmp u1, .tmp u2]) (h : codeP P (pan R) c (QX (fun ρ w => LD P (Instr.loadAt t0 (ρ a0)) w fun r0 => R (.returned (.tuple #[r0, ρ u1, ρ u2])) w) (fun ρ w => LD P (Instr.loadAt t0 (ρ a0)) w fun r0 => R (.returned (.tuple #[r0, ρ u1, ρ u2])) w) []) (envOf args) w) : Calls P f args.toArray w R :=
  calls_of hm hf hb hok hargs _ (fun a ρ w hrel hR => by
    obtain ⟨r0, h0, hR⟩ := LD_elim hR
    rw [← hrel.get] at h0
    obtain ⟨p0, q0, k0⟩ := load_at h0
    refine ⟨.tuple #[r0, ρ u1, ρ u2], ?_, hR⟩
    simp only [← hrel.get]
    simp [results, hr, asAddr, k0, q0]) h
end
end Go.Px

/-
  Words for proofs over the shallow programs: contracts, calls, tests; data in memory.
-/
namespace Go.Px
open Go.RowKit

/-! ### Contracts -/
def RT (S : Value → World → Prop) : Ending → World → Prop
  | .returned v, w => S v w
  | _, _ => False

theorem RT_ret (S : Value → World → Prop) (v : Value) (w : World) : RT S (.returned v) w = S v w := rfl

/-- A call of 'f' comes to its body and returns with 'S'. -/
def Ct (P : Program) (f : FuncId) (args : Array Value) (w : World) (S : Value → World → Prop) : Prop := Enters P f ∧ Calls P f args w (RT S)

theorem Ct.mono {P : Program} {f : FuncId} {args : Array Value} {w : World} {S S' : Value → World → Prop} (h : Ct P f args w S) (hs : ∀ v w', S v w' → S' v w') : Ct P f args w S' :=
  ⟨h.1, h.2.mono fun e w' he => by cases e <;> first | exact hs _ _ he | exact he⟩

theorem Ct.intro {P : Program} {f : FuncId} {args : Array Value} {w : World} {S : Value → World → Prop} (he : Enters P f) (h : ∀ R : Ending → World → Prop, (∀ v w', S v w' → R (.returned v) w') → Calls P f args w R) : Ct P f args w S :=
  ⟨he, h (RT S) fun _ _ hs => hs⟩

theorem CALL_of {P : Program} {X : Pan} {f : FuncId} {args : Array Value} {w : World} {K S : Value → World → Prop} (h : Ct P f args w S) (hk : ∀ v w', S v w' → K v w') : CALL P X f args w K := by
  unfold CALL RUNN
  rw [h.1 args w]
  exact h.2.mono fun e w' he => by cases e <;> first | exact hk _ _ he | exact he.elim

theorem CALLV_of {P : Program} {X : Pan} {g : FuncId} {first cap : Array Value} {args : List Value} {w : World} {K S : Value → World → Prop} (h : Ct P g (first.toList ++ args ++ cap.toList).toArray w S) (hk : ∀ v w', S v w' → K v w') :
    CALLV P X (.func (.func g) first cap) args w K := CALL_of h hk

theorem CALLY_of {P : Program} {X : Pan} {g : FuncId} {first cap : Array Value} {args : List Value} {w : World} {K S : Value → World → Prop} (h : Ct P g (first.toList ++ args ++ cap.toList).toArray w S) (hk : ∀ v w', S v w' → K v w') :
    CALLY P X (.func (.func g) first cap) args w K := CALL_of h hk

/-- A round of the loop over an iterator. -/
theorem CALLY_yield {P : Program} {X : Pan} {l : Nat} {args : List Value} {w : World} {K : Value → World → Prop} {R : Ending → World → Prop} (h : YieldAt Fence.wide 0 P l args.toArray w R)
    (hk : ∀ e w', R e w' → ∃ v, e = .returned v ∧ K v w') : CALLY P X (.func (.yield l) #[] #[]) args w K := by
  obtain ⟨fn, tmps, assign, body, hrun, hr⟩ := h
  exact ⟨fn, tmps, assign, body, hrun, hr.mono fun e w' he => by obtain ⟨v, rfl, hv⟩ := hk e w' he; exact hv⟩

theorem SPL_intro {p : Bool} {A B : Prop} (ha : p = true → A) (hb : p = false → B) : SPL (.bool p) A B := by
  cases p
  · exact hb rfl
  · exact ha rfl

/-! ### How simp goes through a piece: from the left, never below the binder of what follows -/
section
variable {P : Program} {X : Pan} {w w' : World} {v v' a b : Value} {A B : Prop}
theorem SPL_true : SPL (.bool true) A B = A := rfl
theorem SPL_false : SPL (.bool false) A B = B := rfl
theorem PICK_bool {t : Bool} {K : Value → Prop} : PICK (.bool t) a b K = K (cond t a b) := rfl
theorem NILC_some {p : Addr} {K : Value → Prop} : NILC (.pointer (some p)) K = K (.pointer (some p)) := rfl

end

def RES (X : Pan) (r : Result Value) (K : Value → World → Prop) (_x : Tok X := tok X) (_k : Tok K := tok K) : Prop :=
  match r with
  | .ok v w' => K v w'
  | .halt (.panic v) w' => X [{ v, recovered := false }] w'
  | _ => False
def RESU (X : Pan) (r : Result Unit) (K : World → Prop) (_x : Tok X := tok X) (_k : Tok K := tok K) : Prop :=
  match r with
  | .ok _ w' => K w'
  | .halt (.panic v) w' => X [{ v, recovered := false }] w'
  | _ => False
def RESL (w : World) (r : Result Value) (K : Value → Prop) (_k : Tok K := tok K) : Prop := ∃ v, r = .ok v w ∧ K v
def RESP (f : World → Result Value) (K : Value → Prop) (_k : Tok K := tok K) : Prop := ∃ v, (∀ w, f w = .ok v w) ∧ K v

section
variable {P : Program} {X : Pan} {w w' : World} {v : Value}
theorem RUN_eq {s : Sem Value} {K : Value → World → Prop} : RUN P X s w K = RES X (s.run P w) K := by unfold RUN RES; rfl
theorem RUNU_eq {s : Sem Unit} {K : World → Prop} : RUNU P X s w K = RESU X (s.run P w) K := by unfold RUNU RESU; rfl
theorem LD_eq {s : Sem Value} {K : Value → Prop} : LD P s w K = RESL w (s.run P w) K := by unfold LD RESL; rfl
theorem PUR_eq {s : Sem Value} {K : Value → Prop} : PUR P s K = RESP (fun w => s.run P w) K := by unfold PUR RESP; rfl
theorem RES_ok {K : Value → World → Prop} : RES X (.ok v w) K = K v w := rfl
theorem RESU_ok {u : Unit} {K : World → Prop} : RESU X (.ok u w) K = K w := rfl
theorem RESL_ok {K : Value → Prop} : RESL w (.ok v w) K = K v := by
  apply propext
  constructor
  · rintro ⟨v', h, hk⟩; injection h with h1; subst h1; exact hk
  · exact fun hk => ⟨v, rfl, hk⟩
theorem RESP_ok {K : Value → Prop} : RESP (fun w => .ok v w) K = K v := by
  apply propext
  constructor
  · rintro ⟨v', h, hk⟩; have := h default; injection this with h1; subst h1; exact hk
  · exact fun hk => ⟨v, fun _ => rfl, hk⟩
end

attribute [irreducible] RES RESU RESL RESP
attribute [go_sem ↓] RUN_eq RUNU_eq LD_eq PUR_eq
attribute [go_sem] IntWalk.i64_in IntWalk.u8_in IntWalk.i32_in
attribute [go_sem] RES_ok RESU_ok RESL_ok RESP_ok bins SPL_true SPL_false PICK_bool NILC_some RT_ret

abbrev EP := Ending → World → Prop
abbrev VP := Value → World → Prop
abbrev XP := Exit → Env → World → Prop
end Go.Px

/-
  How data lie in memory: readings that hang on the blocks below a number alone.
-/
namespace Go.Px
open Go.RowKit

/-- A way in which data of type α lie in 'size' cells. 'bytes': how much an element takes. -/
structure Rep (α : Type) where
  size : Nat
  bytes : Nat
  ok : World → Nat → List Value → α → Prop
  len : ∀ {w B cs x}, ok w B cs x → cs.length = size
  keep : ∀ {w w' B B' cs x}, ok w B cs x → B ≤ B' → (∀ b, b < B → w'.heap[b]? = w.heap[b]?) → ok w' B' cs x
  one : ∀ {w B cs x}, ok w B cs x → ∀ u ∈ cs, u.oneCell' = true
  /-- What an argument's weight gives: nothing is too great for a machine. -/
  fit : α → Prop := fun _ => True
  /-- How much there is in all. -/
  bulk : α → Nat := fun _ => 0

/-- What a string or a slice of an argument may take. -/
def reachN : Nat := 0x7ffffffff000

/-- A reading out of a value of one cell. -/
def Rep.at1 {α : Type} (r : Rep α) (w : World) (B : Nat) (v : Value) (x : α) : Prop := r.ok w B [v] x
/-- .. out of a struct's value. -/
def Rep.atN {α : Type} (r : Rep α) (w : World) (B : Nat) (v : Value) (x : α) : Prop := ∃ cs, v = .agg cs.toArray ∧ r.ok w B cs x

/-- What a slice may take. -/
def maxBytes : Nat := 140737488355328

def inI64 (x : Int) : Prop := -9223372036854775808 ≤ x ∧ x ≤ 9223372036854775807

def rInt : Rep Int where
  size := 1
  bytes := 8
  ok _ _ cs x := cs = [.int .i64 x] ∧ inI64 x
  len h := by rw [h.1]; rfl
  keep h _ _ := h
  one h u hu := by rw [h.1] at hu; simp at hu; subst hu; rfl
  bulk _ := 1

def rBool : Rep Bool where
  size := 1
  bytes := 1
  ok _ _ cs x := cs = [.bool x]
  len h := by rw [h]; rfl
  keep h _ _ := h
  one h u hu := by rw [h] at hu; simp at hu; subst hu; rfl
  bulk _ := 1

def rStr : Rep ByteArray where
  size := 1
  bytes := 16
  ok _ _ cs x := cs = [.string x] ∧ x.size ≤ maxLen
  len h := by rw [h.1]; rfl
  keep h _ _ := h
  one h u hu := by rw [h.1] at hu; simp at hu; subst hu; rfl
  fit x := x.size ≤ reachN
  bulk x := x.size + 1

/-- Two, one behind the other. -/
def Rep.prod {α β : Type} (r : Rep α) (s : Rep β) : Rep (α × β) where
  size := r.size + s.size
  bytes := r.bytes + s.bytes
  ok w B cs x := ∃ c1 c2, cs = c1 ++ c2 ∧ r.ok w B c1 x.1 ∧ s.ok w B c2 x.2
  len := by rintro w B cs x ⟨c1, c2, rfl, h1, h2⟩; rw [List.length_append, r.len h1, s.len h2]
  keep := by rintro w w' B B' cs x ⟨c1, c2, rfl, h1, h2⟩ hB hb; exact ⟨c1, c2, rfl, r.keep h1 hB hb, s.keep h2 hB hb⟩
  one := by
    rintro w B cs x ⟨c1, c2, rfl, h1, h2⟩ u hu
    rcases List.mem_append.1 hu with hu | hu
    · exact r.one h1 u hu
    · exact s.one h2 u hu
  fit x := r.fit x.1 ∧ s.fit x.2
  bulk x := r.bulk x.1 + s.bulk x.2

/-- The same cells, read as another type. -/
def Rep.map {α β : Type} (r : Rep α) (f : β → α) : Rep β where
  size := r.size
  bytes := r.bytes
  ok w B cs x := r.ok w B cs (f x)
  len h := r.len h
  keep h := r.keep h
  one h := r.one h
  fit x := r.fit (f x)
  bulk x := r.bulk (f x)

/-- A slice: nil or not; its cells lie below B. -/
def rSlice {α : Type} (r : Rep α) : Rep (List α) where
  size := 1
  bytes := 24
  ok w B cs l := ∃ A c, cs = [.slice A l.length c] ∧ l.length ≤ c ∧ c ≤ maxLen ∧ True ∧
    (0 < l.length → ∃ b o, A = some ⟨b, o, none⟩ ∧ b < B ∧ ∀ i x, l[i]? = some x → ∃ ys, r.ok w B ys x ∧ ∀ j u, ys[j]? = some u → w.cell? ⟨b, o + (i * r.size + j), none⟩ = some u)
  len := by rintro w B cs x ⟨A, c, rfl, _⟩; rfl
  keep := by
    rintro w w' B B' cs l ⟨A, c, rfl, h1, h2, h3, h4⟩ hB hb
    refine ⟨A, c, rfl, h1, h2, h3, fun hl => ?_⟩
    obtain ⟨b, o, rfl, hbB, hc⟩ := h4 hl
    refine ⟨b, o, rfl, by omega, fun i x hi => ?_⟩
    obtain ⟨ys, hy, hcell⟩ := hc i x hi
    exact ⟨ys, r.keep hy hB hb, fun j u hu => (World.cell?_of_block (hb b hbB)).trans (hcell j u hu)⟩
  one := by rintro w B cs x ⟨A, c, rfl, _⟩ u hu; simp at hu; subst hu; rfl
  fit l := l.length * r.bytes ≤ reachN ∧ ∀ x ∈ l, r.fit x
  bulk l := (l.map r.bulk).sum + 1

section
variable {α : Type} {r : Rep α} {w w' : World} {B B' : Nat} {v : Value} {l : List α}

theorem Rep.below {cs : List Value} {x : α} (h : r.ok w B cs x) (hb : Below B w w') : r.ok w' B cs x := r.keep h (Nat.le_refl _) hb.block
theorem Rep.up {cs : List Value} {x : α} (h : r.ok w B cs x) (hB : B ≤ B') : r.ok w B' cs x := r.keep h hB fun _ _ => rfl

/-- A slice opened: its form, and what lies at each place. -/
theorem slice_form (h : (rSlice r).at1 w B v l) : ∃ A c, v = .slice A l.length c ∧ l.length ≤ c ∧ c ≤ maxLen ∧ True := by
  obtain ⟨A, c, hv, h1, h2, h3, _⟩ := h
  exact ⟨A, c, by simpa using hv, h1, h2, h3⟩

theorem slice_at {A : Option Addr} {n c : Nat} (h : (rSlice r).at1 w B (.slice A n c) l) {i : Nat} (hi : i < l.length) :
    ∃ b o ys, A = some ⟨b, o, none⟩ ∧ b < B ∧ r.ok w B ys l[i] ∧ ∀ j u, ys[j]? = some u → w.cell? ⟨b, o + (i * r.size + j), none⟩ = some u := by
  obtain ⟨A', c', hv, h1, h2, h3, h4⟩ := h
  obtain ⟨b, o, rfl, hb, hc⟩ := h4 (by omega)
  obtain ⟨ys, hy, hcell⟩ := hc i l[i] (List.getElem?_eq_getElem hi)
  injection hv with hv
  injection hv with hA
  exact ⟨b, o, ys, hA, hb, hy, hcell⟩

theorem ints_at {A : Option Addr} {n c : Nat} {l : List Int} (h : (rSlice rInt).at1 w B (.slice A n c) l) {i : Nat} (hi : i < l.length) :
    ∃ b o, A = some ⟨b, o, none⟩ ∧ b < B ∧ w.cell? ⟨b, o + i, none⟩ = some (.int .i64 l[i]) ∧ inI64 l[i] := by
  obtain ⟨b, o, ys, hA, hb, ⟨rfl, hr⟩, hc⟩ := slice_at h hi
  exact ⟨b, o, hA, hb, by simpa [rInt] using hc 0 _ rfl, hr⟩

theorem strs_at {A : Option Addr} {n c : Nat} {l : List ByteArray} (h : (rSlice rStr).at1 w B (.slice A n c) l) {i : Nat} (hi : i < l.length) :
    ∃ b o, A = some ⟨b, o, none⟩ ∧ b < B ∧ w.cell? ⟨b, o + i, none⟩ = some (.string l[i]) ∧ l[i].size ≤ maxLen := by
  obtain ⟨b, o, ys, hA, hb, ⟨rfl, hr⟩, hc⟩ := slice_at h hi
  exact ⟨b, o, hA, hb, by simpa [rStr] using hc 0 _ rfl, hr⟩
end

theorem wrap_succ {k n : Nat} (hk : k < n) (hn : n ≤ maxLen) : IntKind.i64.wrap ((k : Int) + 1) = (k : Int) + 1 := by
  unfold maxLen at hn
  exact IntWalk.i64_in _ (by omega)

/-- The number in a slot. -/
def iv : Value → Nat | .int _ q => q.toNat | _ => 0

end Go.Px

/-
  From a law's contract to its row: the law answers true, and below the heap's old size nothing has turned.
-/
namespace Go.Px
open Go.ChangeShapes Go.WideShapes Go.ChangeAt Go.RowKit

section
variable {H : Type} {enc : TypeId × Value → H} {P : Program} {W W' : World}

theorem trodAll_stays (hl : laidOutB P = true) {sp : Nat → Bool} : ∀ {ts : List TypeId} {vs : List Value} {ds : List (DataW H)} {ps : List MemPlace}, (∀ t ∈ ts, P.readableRec t = true ∧ t < P.types.size) →
    DataW.TrodAll enc P W 0 (fun _ => true) true ts vs ds ps → (∀ x ∈ ps, W.sameAt W' x) → (∀ x ∈ ps, sp x.block = true) → DataW.TrodAll enc P W' 0 sp true ts vs ds ps
  | [], _, _, _, _, h, _, _ => by
    obtain ⟨rfl, rfl, rfl⟩ := trodAll_nil h
    rfl
  | t :: ts, _, _, _, ht, h, hs, hsp => by
    obtain ⟨v, vs, d, ds, p, q, rfl, rfl, rfl, h1, h2⟩ := trodAll_cons h
    obtain ⟨hr, hrow⟩ := ht t (by simp)
    exact trodAll_cons_mk (WideElems.Trod_stays hl hr hrow h1 (fun x hx => hs x (by simp [hx])) (fun x hx => hsp x (by simp [hx])))
      (trodAll_stays hl (fun t ht' => ht t (by simp [ht'])) h2 (fun x hx => hs x (by simp [hx])) (fun x hx => hsp x (by simp [hx])))

/-- What a law owes. -/
theorem law_post {f : Func} {s : ChangeSpec} {args : Array Value} {ds gs : List (DataW H)} {before : List MemPlace} {t : TypeId}
    (hl : laidOutB P = true) (hread : ∀ t ∈ f.params.toList, P.readableRec t = true ∧ t < P.types.size) (hvars : s.vars = []) (hbool : P.underlying t = some .bool) (hrt : f.resultTypes = #[t])
    (hW : DataW.Whole enc P f.params.toList s.vars false W args.toList ds gs before)
    (hres : (s.fn H (ds ++ gs)).results = [.lit (.bool true)]) (hargs : (s.fn H (ds ++ gs)).args = ds) (hvs : (s.fn H (ds ++ gs)).vars = []) (hb : Below W.heap.size W W') :
    s.post enc P f false true false false W args (.bool true) W' := by
  have hlt : ∀ p ∈ before, p.block < W.heap.size := fun p hp => hW.lt p hp
  have hW0 := hW
  obtain ⟨p, q, hA, hV, rfl, _, _⟩ := hW
  rw [hvars] at hV
  have hV' := hV
  obtain ⟨rfl, rfl⟩ := trodVars_none hV
  refine ⟨ds, [], p ++ [], [], p, [], hW0, ?_, ?_, ?_, ?_, fun h => by cases h⟩
  · rw [hres, hrt]
    exact trodAll_cons_mk (shut_bool hbool true) trodAll_mk0
  · rw [hargs]
    exact trodAll_stays hl hread hA (fun x hx => hb.same (hlt x (by simpa using hx))) (fun x hx => by simpa using hlt x (by simpa using hx))
  · rw [hvs, hvars]; rfl
  · exact World.keptBut_mono (fun x hx => ⟨hx, Or.inr (by simpa using hx)⟩) (hb.frame (· ∈ p ++ []))
end
end Go.Px

/-
  More words: worlds that differ at some blocks alone; strings by their bytes.
-/
namespace Go.Px
open Go.RowKit

/-- Nothing has turned but at blocks in F, and new ones. -/
structure Chg (F : Nat → Prop) (w w' : World) : Prop where
  os : w'.os = w.os
  tape : w'.tape = w.tape
  output : w'.output = w.output
  size : w.heap.size ≤ w'.heap.size
  block : ∀ k, k < w.heap.size → ¬ F k → w'.heap[k]? = w.heap[k]?

section
variable {F G : Nat → Prop} {a b c w w' : World}
theorem Chg.refl (F : Nat → Prop) (w : World) : Chg F w w := ⟨rfl, rfl, rfl, Nat.le_refl _, fun _ _ _ => rfl⟩
theorem Chg.trans (h : Chg F a b) (k : Chg F b c) : Chg F a c :=
  ⟨k.os.trans h.os, k.tape.trans h.tape, k.output.trans h.output, Nat.le_trans h.size k.size, fun i hi hF => (k.block i (Nat.lt_of_lt_of_le hi h.size) hF).trans (h.block i hi hF)⟩
/-- .. where the second may turn more, of what is new. -/
theorem Chg.trans' (h : Chg F a b) (k : Chg G b c) (hG : ∀ i, i < a.heap.size → G i → F i) : Chg F a c :=
  ⟨k.os.trans h.os, k.tape.trans h.tape, k.output.trans h.output, Nat.le_trans h.size k.size, fun i hi hF => (k.block i (Nat.lt_of_lt_of_le hi h.size) (fun hg => hF (hG i hi hg))).trans (h.block i hi hF)⟩
theorem Chg.mono (h : Chg F w w') (hF : ∀ i, i < w.heap.size → F i → G i) : Chg G w w' := ⟨h.os, h.tape, h.output, h.size, fun k hk hg => h.block k hk fun hf => hg (hF k hk hf)⟩
theorem Chg.drew (h : Chg F a w) : Chg F a w.drew := ⟨h.os, h.tape, h.output, h.size, h.block⟩
theorem Chg.alloc (h : Chg F a w) (o : Obj) : Chg F a (w.alloc o) :=
  h.trans' (G := fun _ => False) ⟨rfl, rfl, rfl, by simp, fun k hk _ => Below.heap_alloc _ _ _ hk⟩ (fun _ _ h => h.elim)
theorem Chg.setCell (h : Chg F a w) {p : Addr} (hp : F p.block ∨ a.heap.size ≤ p.block) (u : Value) : Chg F a (w.setCell p u) :=
  ⟨h.os, h.tape, h.output, by simpa using h.size, fun k hk hF => by
    rw [Below.heap_setCell _ _ _ _ (by rintro rfl; rcases hp with hp | hp; exact hF hp; omega)]
    exact h.block k hk hF⟩
theorem Chg.grown {row : Option Nat} (h : Chg F a w) (hg : w.grownBy w' row) (hr : ∀ k, row = some k → F k ∨ a.heap.size ≤ k) : Chg F a w' :=
  ⟨hg.os.trans h.os, hg.tape.trans h.tape, hg.output.trans h.output, Nat.le_trans h.size hg.size, fun k hk hF => by
    rw [hg.block k (Nat.lt_of_lt_of_le hk h.size) (fun e => by rcases hr k e.symm with h1 | h1; exact hF h1; omega)]
    exact h.block k hk hF⟩
theorem Chg.cell (h : Chg F w w') {p : Addr} (hp : p.block < w.heap.size) (hF : ¬ F p.block) : w'.cell? p = w.cell? p := World.cell?_of_block (w := w) (h.block p.block hp hF)
/-- A cell that was there. -/
theorem Chg.at (h : Chg F w w') {p : Addr} {v : Value} (hv : w.cell? p = some v) (hF : ¬ F p.block) : w'.cell? p = some v := (h.cell (World.block_lt_of_cell? w p hv) hF).trans hv
theorem Chg.frozen (h : Chg F w w') {p : Addr} (hp : p.block < w.heap.size) (hF : ¬ F p.block) : w'.frozen? p = w.frozen? p := World.frozen?_of_block (w := w) (h.block p.block hp hF)
theorem Chg.below {B : Nat} (h : Chg F w w') (hB : B ≤ w.heap.size) (hF : ∀ k, k < B → ¬ F k) : Below B w w' := ⟨h.os, h.tape, h.output, h.size, fun k hk => h.block k (by omega) (hF k hk)⟩
theorem Below.chg (h : Below w.heap.size w w') : Chg F w w' := ⟨h.os, h.tape, h.output, h.size, fun k hk _ => h.block k hk⟩
theorem Chg.down (h : Chg F a w) (k : Chg G w w') (hG : ∀ i, i < a.heap.size → ¬ G i) : Chg F a w' := h.trans' k fun i hi hg => (hG i hi hg).elim
end

/-! ### Bytes of a string -/
def bt (s : ByteArray) (i : Nat) : Nat := if h : i < s.size then (s[i]'h).toNat else 0

theorem bt_lt (s : ByteArray) (i : Nat) : bt s i < 256 := by
  unfold bt
  split
  · exact UInt8.toNat_lt _
  · omega

section
variable {P : Program} {w : World}
theorem index_bt {t : TypeId} {s : ByteArray} {k : IntKind} {i : Nat} (h : P.underlying t = some .string) (hi : i < s.size) : (Instr.index t (.string s) (.int k (i : Int))).run P w = .ok (.int .u8 (bt s i)) w := by
  rw [run_index_string w t s k i h, dif_pos (by omega)]
  unfold bt
  rw [dif_pos hi]
  rfl

theorem slice_ij {t : TypeId} {s : ByteArray} {k k' : IntKind} {i j : Nat} (h : P.underlying t = some .string) (hi : i ≤ j) (hj : j ≤ s.size) : (Instr.sliceAt t (.string s) (some (.int k i)) (some (.int k' j)) none).run P w = .ok (.string (s.extract i j)) w := by
  rw [run_sliceAt_string w t _ _ _ _ h, run_slice_string w t s k k' i j h (by omega) (by omega) (by omega)]
  rfl
theorem slice_i {t : TypeId} {s : ByteArray} {k : IntKind} {i : Nat} (h : P.underlying t = some .string) (hi : i ≤ s.size) : (Instr.sliceAt t (.string s) (some (.int k i)) none none).run P w = .ok (.string (s.extract i s.size)) w := by
  rw [run_sliceAt_string w t _ _ _ _ h, run_slice_string_from_if w t s k i h, if_pos (by omega)]
  rfl
theorem slice_j {t : TypeId} {s : ByteArray} {k : IntKind} {j : Nat} (h : P.underlying t = some .string) (hj : j ≤ s.size) : (Instr.sliceAt t (.string s) none (some (.int k j)) none).run P w = .ok (.string (s.extract 0 j)) w := by
  rw [run_sliceAt_string w t _ _ _ _ h, run_slice_string_to_if w t s k j h, if_pos (by omega)]
  rfl
end
end Go.Px

/-
  Slices that a call owns: appends.
-/
namespace Go.Px
open Go.RowKit

theorem ownsRow_chg {F : Nat → Prop} {w w' : World} {base e size : Nat} {v : Value} {n : Nat} {xs : List Value} (h : w.ownsRow base e size v n xs) (hc : Chg F w w') (hF : ∀ i, base ≤ i → ¬ F i) : w'.ownsRow base e size v n xs := by
  refine ⟨h.1, ?_⟩
  rcases h.2 with h2 | ⟨g, cap, cur, hv, hb, hg, hr⟩
  · exact Or.inl h2
  · refine Or.inr ⟨g, cap, cur, hv, hb, ?_, hr⟩
    rw [hc.block g (Array.getElem?_eq_some_iff.1 hg).1 (hF g hb)]
    exact hg

theorem ownsRow_block {w : World} {base e size : Nat} {v : Value} {n : Nat} {xs : List Value} (h : w.ownsRow base e size v n xs) {k : Nat} (hk : v.ownBlock = some k) : base ≤ k ∧ k < w.heap.size := by
  rcases h.2 with ⟨rfl, _⟩ | ⟨g, cap, cur, rfl, hb, hg, _⟩
  · cases hk
  · cases hk; exact ⟨hb, (Array.getElem?_eq_some_iff.1 hg).1⟩

theorem ownsRow_base {w : World} {base base' e size : Nat} {v : Value} {n : Nat} {xs : List Value} (h : w.ownsRow base e size v n xs) (hb : base' ≤ base) : w.ownsRow base' e size v n xs :=
  ⟨h.1, h.2.imp id fun ⟨g, cap, cur, hv, hg, r⟩ => ⟨g, cap, cur, hv, Nat.le_trans hb hg, r⟩⟩

/-- What is owned reads as a slice. -/
theorem slice_of_own {α : Type} {r : Rep α} {enc : α → List Value} {w : World} {base e B : Nat} {v : Value} {l : List α} (h : w.ownsRow base e r.size v l.length (l.flatMap enc))
    (hsz : ∀ x ∈ l, (enc x).length = r.size) (hr : ∀ x ∈ l, r.ok w B (enc x) x) (hB : w.heap.size ≤ B) : (rSlice r).at1 w B v l := by
  rcases h.2 with ⟨rfl, hn⟩ | ⟨g, cap, cur, rfl, _, hg, hnc, hcm, hcs, htake⟩
  · exact ⟨none, 0, by rw [hn], by omega, by simp [maxLen], trivial, fun h => by omega⟩
  · refine ⟨some ⟨g, 0, none⟩, cap, rfl, hnc, hcm, trivial, fun _ => ⟨g, 0, rfl, ?_, fun i x hi => ⟨enc x, hr x (List.mem_of_getElem? hi), fun j u hj => ?_⟩⟩⟩
    · have := (Array.getElem?_eq_some_iff.1 hg).1; omega
    · have hil := (List.getElem?_eq_some_iff.1 hi).1
      have hx := (List.getElem?_eq_some_iff.1 hi).2
      have hjl : j < r.size := by have := (List.getElem?_eq_some_iff.1 hj).1; rw [hsz x (List.mem_of_getElem? hi)] at this; exact this
      have key : ∀ (l : List α) (i : Nat) (x : α), (∀ x ∈ l, (enc x).length = r.size) → l[i]? = some x → (l.flatMap enc)[i * r.size + j]? = (enc x)[j]? := by
        intro l
        induction l with
        | nil => intro i x _ h; simp at h
        | cons y l ih =>
          intro i x hs h
          cases i with
          | zero =>
            simp at h; subst h
            rw [List.flatMap_cons, Nat.zero_mul, Nat.zero_add, List.getElem?_append_left (by rw [hs y (by simp)]; exact hjl)]
          | succ i =>
            rw [List.flatMap_cons, List.getElem?_append_right (by rw [hs y (by simp), Nat.succ_mul]; omega), hs y (by simp), Nat.succ_mul, show i * r.size + r.size + j - r.size = i * r.size + j by omega]
            exact ih i x (fun z hz => hs z (by simp [hz])) (by simpa using h)
      have hk := key l i x hsz hi
      rw [hj, ← htake] at hk
      have hk2 : cur.toList[i * r.size + j]? = some u := by
        rw [List.getElem?_take] at hk
        split at hk
        · exact hk
        · cases hk
      simp only [World.cell?, hg, Nat.zero_add]
      simpa using hk2

/-- One element is appended. -/
theorem append_own {P : Program} {X : Pan} {w : World} {K : Value → World → Prop} (t ty e : TypeId) {i : TypeInfo} {z : Value} {size bytes base : Nat} (ht : P.underlying t = some (.slice e)) (hi : P.info? e = some i) (hz : i.zero = some z)
    (hsize : i.size = size) (hby : i.bytes = bytes) (hzs : z.cells.size = size) (hsz : 0 < size) {v : Value} {n : Nat} {xs : List Value} (hown : w.ownsRow base e size v n xs)
    {a : Addr} {c : Nat} {news : List Value} (hl : news.length = size) (hnews : ∀ j u, news[j]? = some u → w.cell? (a.add j) = some u) (h1 : ∀ u ∈ news, u.oneCell' = true)
    (h63 : n + 1 ≤ maxLen) (hbytes : (n + 1) * bytes ≤ maxBytes) (hbase : base ≤ w.heap.size)
    (hK : ∀ g cap w', w'.ownsRow base e size (.slice (some ⟨g, 0, none⟩) (n + 1) cap) (n + 1) (xs ++ news) → w.grownBy w' v.ownBlock → (v.ownBlock = some g ∨ g = w.heap.size) → K (.slice (some ⟨g, 0, none⟩) (n + 1) cap) w') :
    RES X ((Builtin.append_ #[t, t] ty #[v, .slice (some a) 1 c]).run P w) K := by
  obtain ⟨v', w', hrun, hown', hgr, _, hb⟩ := run_append_own_at (P := P) w base t ty e i z size bytes ht hi hz hsize hby hzs hsz v n xs hown a 1 c news (by rw [hl, Nat.one_mul]) hnews h1 h63 hbytes hbase
  rw [hrun, RES_ok]
  rcases hown'.2 with ⟨_, hn⟩ | ⟨g, cap, cur, rfl, hr⟩
  · omega
  · refine hK g cap w' hown' hgr ?_
    rcases hb with hb | hb
    · exact Or.inl hb.symm
    · right; simpa [Value.ownBlock] using hb

/-- What lies in a new block. -/
theorem alloc_cells (w : World) (l : List Value) (t : TypeId) {n : Nat} (hn : n = w.heap.size) : ∀ j u, l[j]? = some u → (w.alloc (.cells l.toArray t)).cell? ((⟨n, 0, none⟩ : Addr).add j) = some u := by
  intro j u hj
  subst hn
  rw [Addr.add_lit, World.cell?_alloc_new, List.getElem?_toArray, Nat.zero_add]
  exact hj

theorem new_cell (w : World) (cs : Array Value) (t : TypeId) {n : Nat} (hn : n = w.heap.size) (i : Nat) : (w.alloc (.cells cs t)).cell? ⟨n, i, none⟩ = cs[i]? := by subst hn; exact World.cell?_alloc_new w cs t i
theorem new_frozen (w : World) (cs : Array Value) (t : TypeId) {n : Nat} (hn : n = w.heap.size) (i : Nat) : (w.alloc (.cells cs t)).frozen? ⟨n, i, none⟩ = false := by subst hn; exact World.frozen?_alloc_new w cs t i

theorem grown_chg {F : Nat → Prop} {w w' : World} {row : Option Nat} (hg : w.grownBy w' row) (hr : ∀ k, row = some k → F k) : Chg F w w' :=
  Chg.grown (Chg.refl F w) hg fun k hk => Or.inl (hr k hk)
end Go.Px

/-
  Maps that a call owns: from strings or numbers to numbers.
-/
namespace Go.Px
open Go.RowKit

/-- A kind of keys. -/
structure KeyT (κ : Type) where
  val : κ → Value
  lit : κ → Lit
  good : κ → Prop
  inj : ∀ {a b}, lit a = lit b → a = b
  isLit : ∀ a, WideAt.IsKeyLit (lit a)

def kStr : KeyT ByteArray where
  val s := .string s
  lit s := .string s.data.toList
  good s := s.size ≤ maxLen
  inj := by
    intro a b h
    cases a; cases b
    simp at h
    cases h; rfl
  isLit _ := trivial
def kInt : KeyT Int where
  val x := .int .i64 x
  lit x := .int .i64 x
  good x := inI64 x
  inj := by intro a b h; simpa using h
  isLit _ := trivial

/-- What a type of keys and of maps must be. -/
structure MapTy (P : Program) {κ : Type} (Y : KeyT κ) (t k e : TypeId) : Prop where
  tm : P.underlying t = some (.map k e)
  te : P.underlying e = some (.int .i64)
  keyed : Maps.Keyed P k
  key : ∀ a : κ, Y.good a → keyOf P k (Y.val a) = some (Y.lit a)
  zero : ∀ w, (zeroValue e).run P w = .ok (.int .i64 0) w

/-- A map of so many keys at most, that answers f; sz: just so many. -/
def MapOf (P : Program) {κ : Type} (Y : KeyT κ) (k e : TypeId) (w : World) (v : Value) (n : Nat) (f : κ → Int) : Prop :=
  (v = .map none ∧ n = 0 ∧ ∀ a, f a = 0) ∨ ∃ b, v = .map (some b) ∧ ∃ D : DataW Unit, w.ownsMap P k (plainElem P e) b n D ∧ Maps.size D = n ∧ (∀ a : κ, D.atKey (Y.lit a) (.lit (.int .i64 0)) = .lit (.int .i64 (f a))) ∧ ∀ a : κ, Maps.has D (Y.lit a) = true → f a ≠ 0

section
variable {P : Program} {κ : Type} {Y : KeyT κ} {t k e : TypeId} {w w' : World} {v : Value} {n : Nat} {f : κ → Int}

theorem MapOf.nil : MapOf P Y k e w (.map none) 0 (fun _ => 0) := Or.inl ⟨rfl, rfl, fun _ => rfl⟩

theorem MapOf.chg {F : Nat → Prop} (h : MapOf P Y k e w v n f) (hc : Chg F w w') (hF : ∀ b, v = .map (some b) → ¬ F b) : MapOf P Y k e w' v n f := by
  rcases h with h | ⟨b, hv, D, hD, r⟩
  · exact Or.inl h
  · refine Or.inr ⟨b, hv, D, ?_, r⟩
    obtain ⟨es, clock, hb, h2⟩ := hD
    exact ⟨es, clock, (hc.block b (Array.getElem?_eq_some_iff.1 hb).1 (hF b hv)).trans hb, h2⟩

theorem MapOf.lt (h : MapOf P Y k e w v n f) {b : Nat} (hv : v = .map (some b)) : b < w.heap.size := by
  rcases h with h | ⟨b', hv', D, hD, _⟩
  · rw [h.1] at hv; cases hv
  · rw [hv'] at hv; cases hv; exact hD.lt

theorem MapOf.lookup (T : MapTy P Y t k e) (h : MapOf P Y k e w v n f) (a : κ) (ha : Y.good a) : (Instr.lookup t v (Y.val a) false).run P w = .ok (.int .i64 (f a)) w := by
  rcases h with ⟨rfl, _, h0⟩ | ⟨b, rfl, D, hD, _, hat, _⟩
  · rw [h0 a]
    obtain h := Maps.look_nil (w := w) false T.keyed T.tm (T.zero w) (T.key a ha)
    simpa using h
  · obtain ⟨c, hrun, hc, _⟩ := hD.lookup_int T.keyed T.tm T.te (T.zero w) (T.key a ha)
    rw [hat a] at hc
    injection hc with hc
    injection hc with _ hc
    rw [hrun, hc]

open Classical in
theorem MapOf.update (T : MapTy P Y t k e) {b : Nat} (h : MapOf P Y k e w (.map (some b)) n f) (a : κ) (ha : Y.good a) (hn : n < maxLen) {x : Int} (hx : inI64 x) (hx0 : x ≠ 0) :
    ∃ w', (Instr.mapUpdate t (.map (some b)) (Y.val a) (.int .i64 x)).run P w = .ok () w' ∧ MapOf P Y k e w' (.map (some b)) (if f a = 0 then n + 1 else n) (fun c => if c = a then x else f c) ∧ w.grownBy w' (some b) := by
  rcases h with ⟨hv, _⟩ | ⟨b', hv, D, hD, hsz, hat, hhas⟩
  · cases hv
  · cases hv
    have hwf : (Lit.int .i64 x).wf = true := by
      have hm : IntKind.i64.min = -9223372036854775808 := by decide
      obtain ⟨h1, h2⟩ := hx
      simp [Lit.wf, hm]
      omega
    obtain ⟨w', hrun, hown, hg⟩ := hD.update T.keyed T.tm hn (T.key a ha) (plainElem_int (H := Unit) (P := P) T.te hwf)
    have hsz' := Maps.size_put (hD.tidy T.keyed) (k := Y.lit a) (.lit (.int .i64 x))
    have hfa : f a = 0 ↔ Maps.has D (Y.lit a) = false := by
      constructor
      · intro h0
        rw [Bool.eq_false_iff]
        intro hh
        exact hhas a hh h0
      · intro hh
        have := Maps.atKey_of_not_has hh (.lit (.int .i64 0))
        rw [hat a] at this
        injection this with this
        injection this with _ this
    have hsize : Maps.size (D.put (Y.lit a) (.lit (.int .i64 x))) = if f a = 0 then n + 1 else n := by
      rw [hsz', hsz]
      by_cases h0 : f a = 0
      · rw [if_pos h0, hfa.1 h0]; rfl
      · rw [if_neg h0]
        have : Maps.has D (Y.lit a) = true := by
          cases hh : Maps.has D (Y.lit a) with
          | true => rfl
          | false => exact absurd (hfa.2 hh) h0
        rw [this]; rfl
    refine ⟨w', hrun, Or.inr ⟨b, rfl, _, ?_, hsize, fun c => ?_, fun c hc => ?_⟩, hg⟩
    · rw [← hsize]
      obtain ⟨es, clock, hb, F, hs, hD'⟩ := hown
      refine ⟨es, clock, hb, F, ?_, hD'⟩
      rw [hD', Maps.size_eq, length_read]
      exact Nat.le_refl _
    · by_cases hca : c = a
      · subst hca
        rw [Maps.atKey_put_same hD.isMap (Y.isLit c)]
        simp only [if_true]
      · rw [Maps.atKey_put_other (fun e => hca (Y.inj e)), hat c]
        simp only [if_neg hca]
    · by_cases hca : c = a
      · simp only [if_pos hca]; exact hx0
      · simp only [if_neg hca]
        rw [Maps.has_put_other (fun e => hca (Y.inj e))] at hc
        exact hhas c hc

theorem MapOf.len (T : MapTy P Y t k e) (h : MapOf P Y k e w v n f) (ty : TypeId) : (Builtin.len_ #[t] ty #[v]).run P w = .ok (.int .i64 n) w := by
  rcases h with ⟨rfl, rfl, _⟩ | ⟨b, rfl, D, hD, hsz, _⟩
  · exact Maps.len_nil T.tm ty
  · rw [hD.len T.tm ty, hsz]

theorem MapOf.made (P : Program) {κ : Type} (Y : KeyT κ) (k e : TypeId) (w : World) : MapOf P Y k e (w.alloc (.map #[] 0)) (.map (some w.heap.size)) 0 (fun _ => 0) :=
  Or.inr ⟨_, rfl, _, World.ownsMap_made w P k _, rfl, fun _ => rfl, fun a h => by cases h⟩
end
end Go.Px

/-
  From a reading to the way in which data lie.
-/
namespace Go.Px
open Go.ChangeShapes Go.WideShapes Go.ChangeAt Go.RowKit

/-- A way of telling how much a reading holds. -/
structure BulkOf {H : Type} (ub : DataW H → Nat) (uba : List (DataW H) → Nat) : Prop where
  str : ∀ b, ub (.lit (.string b)) = b.length + 1
  lit : ∀ l, 1 ≤ ub (.lit l)
  nil : 1 ≤ ub .nil
  slice : ∀ e s, ub (.slice e s) = uba e + uba s + 1
  agg : ∀ p, ub (.agg p) = uba p + 1
  all0 : uba [] = 0
  allc : ∀ d r, uba (d :: r) = ub d + uba r
/-- No more than any such way tells. -/
def BulkLe {H : Type} (n : Nat) (d : DataW H) : Prop := ∀ (ub : DataW H → Nat) (uba : List (DataW H) → Nat), BulkOf ub uba → n ≤ ub d
def BulkLes {H : Type} (n : Nat) (d : List (DataW H)) : Prop := ∀ (ub : DataW H → Nat) (uba : List (DataW H) → Nat), BulkOf ub uba → n ≤ uba d

/-- What is read as a type lies so. -/
def Opens {α : Type} (P : Program) (t : TypeId) (r : Rep α) : Prop :=
  P.cellsOf t = r.size ∧ P.bytesOf t = r.bytes ∧ ∀ {H : Type} (enc : TypeId × Value → H) (W : World) (base : Nat) (sp : Nat → Bool) (held : Bool) (fuel : Nat) (cs : List Value) (x : DataW H × List MemPlace),
    DataW.trod enc P W base sp held fuel t cs = some x → ∃ a, r.ok W W.heap.size cs a ∧ ((x.1.weights P t).all (· ≤ reachBytes) = true → r.fit a) ∧ BulkLe (r.bulk a) x.1

section
variable {P : Program} {t : TypeId}
theorem opens_int (ht : P.underlying t = some (.int .i64)) (hc : P.cellsOf t = 1) (hb : P.bytesOf t = 8) : Opens P t rInt := by
  refine ⟨hc, hb, fun enc W base sp held fuel cs x h => ?_⟩
  obtain ⟨n, rfl, rfl, hw⟩ := DataW.trod_int ht h
  refine ⟨n, ⟨rfl, ?_⟩, fun _ => trivial, fun ub uba hb => by subst_vars; exact hb.lit _⟩
  simp [Lit.wf] at hw
  unfold inI64
  have hm : IntKind.i64.min = -9223372036854775808 := by decide
  rw [hm] at hw
  exact hw
theorem opens_bool (ht : P.underlying t = some .bool) (hc : P.cellsOf t = 1) (hb : P.bytesOf t = 1) : Opens P t rBool := by
  refine ⟨hc, hb, fun enc W base sp held fuel cs x h => ?_⟩
  obtain ⟨b, rfl, rfl⟩ := DataW.trod_bool ht h
  exact ⟨b, rfl, fun _ => trivial, fun ub uba hb => hb.lit _⟩
theorem opens_str (ht : P.underlying t = some .string) (hc : P.cellsOf t = 1) (hb : P.bytesOf t = 16) : Opens P t rStr := by
  refine ⟨hc, hb, fun enc W base sp held fuel cs x h => ?_⟩
  obtain ⟨s, rfl, rfl, hs⟩ := DataW.trod_string ht h
  refine ⟨s, ⟨rfl, hs⟩, fun hw => ?_, fun ub uba hb => by rw [hb.str]; simp [rStr]⟩
  have : s.size ≤ reachBytes := by simpa [DataW.weights] using hw
  exact this
theorem weights_mem {P : Program} {e : TypeId} {H : Type} : ∀ {l : List (DataW H)} {d : DataW H}, (DataW.weightsAll P e l).all (· ≤ reachBytes) = true → d ∈ l → (d.weights P e).all (· ≤ reachBytes) = true
  | [], _, _, h => by cases h
  | x :: l, d, hw, h => by
    simp only [DataW.weightsAll, List.all_append, Bool.and_eq_true] at hw
    rcases List.mem_cons.1 h with rfl | h
    · exact hw.1
    · exact weights_mem hw.2 h
theorem bulk_sum {α H : Type} {bk : α → Nat} {ub : DataW H → Nat} {uba : List (DataW H) → Nat} (hb : BulkOf ub uba) : ∀ {l : List α} {ds : List (DataW H)}, l.length = ds.length → (∀ (i : Nat) (y : α) (d : DataW H), l[i]? = some y → ds[i]? = some d → BulkLe (bk y) d) → (l.map bk).sum ≤ uba ds
  | [], _, _, _ => by simp
  | y :: l, [], h, _ => by simp at h
  | y :: l, d :: ds, h, hd => by
    rw [hb.allc, List.map_cons, List.sum_cons]
    have h1 := hd 0 y d rfl rfl ub uba hb
    have h2 := bulk_sum hb (l := l) (ds := ds) (bk := bk) (by simpa using h) fun i y d hy hd' => hd (i + 1) y d (by simpa using hy) (by simpa using hd')
    omega
theorem opens_slice {α : Type} {r : Rep α} {e : TypeId} (ht : P.underlying t = some (.slice e)) (hc : P.cellsOf t = 1) (hb : P.bytesOf t = 24) (hpos : 0 < r.size) (he : Opens P e r) : Opens P t (rSlice r) := by
  refine ⟨hc, hb, fun enc W base sp held fuel cs x h => ?_⟩
  rcases DataW.trod_slice ht h with ⟨rfl, rfl⟩ | ⟨a, len, cap, elems, rest, n, _, rfl, rfl, _, hl, hm, hlen, hel, _, _⟩
  · exact ⟨[], ⟨none, 0, rfl, by simp, by simp [maxLen], trivial, fun h => by simp at h⟩, fun _ => ⟨by simp, by simp⟩, fun ub uba hb => hb.nil⟩
  · have each : ∀ i, i < len → ∃ y, (∀ z, elems[i]? = some z → ((z.1.weights P e).all (· ≤ reachBytes) = true → r.fit y) ∧ BulkLe (r.bulk y) z.1) ∧ ∃ ys, r.ok W W.heap.size ys y ∧ ∀ j u, ys[j]? = some u → W.cell? (a.add (i * r.size + j)) = some u := by
      intro i hi
      have h1 := hel i hi
      rw [List.getElem?_eq_getElem (by omega), Option.bind_eq_some_iff] at h1
      obtain ⟨cs', hcs, hy⟩ := h1
      obtain ⟨y, hy, hfit, hbk⟩ := he.2.2 enc W base sp held n cs' _ hy
      obtain ⟨_, hlen', hcell⟩ := World.cells?_some hcs
      refine ⟨y, fun z hz => by rw [List.getElem?_eq_getElem (by omega)] at hz; cases hz; exact ⟨hfit, hbk⟩, cs', hy, fun j u hj => ?_⟩
      have hjl := (List.getElem?_eq_some_iff.1 hj).1
      have h2 := hcell j (by omega)
      rw [hj, he.1] at h2
      rw [← h2]
      congr 1
      unfold Addr.add
      by_cases h0 : i * r.size = 0
      · rw [h0]; simp
      · by_cases hj0 : j = 0
        · subst hj0; simp [h0]
        ·           simp [h0, hj0, Nat.add_assoc]
    have mk : ∀ n, n ≤ len → ∃ l : List α, l.length = n ∧ ∀ i y, l[i]? = some y → (∀ z, elems[i]? = some z → ((z.1.weights P e).all (· ≤ reachBytes) = true → r.fit y) ∧ BulkLe (r.bulk y) z.1) ∧ ∃ ys, r.ok W W.heap.size ys y ∧ ∀ j u, ys[j]? = some u → W.cell? (a.add (i * r.size + j)) = some u := by
      intro n
      induction n with
      | zero => exact fun _ => ⟨[], rfl, fun i y h => by simp at h⟩
      | succ n ih =>
        intro hn
        obtain ⟨l, hll, hl'⟩ := ih (by omega)
        obtain ⟨y, hy⟩ := each n (by omega)
        refine ⟨l ++ [y], by simp [hll], fun i z hz => ?_⟩
        by_cases hi : i < l.length
        · rw [List.getElem?_append_left hi] at hz; exact hl' i z hz
        · rw [List.getElem?_append_right (by omega)] at hz
          have hi0 : i - l.length = 0 := by
            have := (List.getElem?_eq_some_iff.1 hz).1
            simp at this; omega
          rw [hi0] at hz
          simp at hz
          subst hz
          have : i = n := by omega
          subst this
          exact hy
    obtain ⟨l, hll, hl'⟩ := mk len (Nat.le_refl _)
    refine ⟨l, ⟨some a, cap, by rw [hll], by omega, hm, trivial, fun hpos' => ?_⟩, fun hw => ?_, fun ub uba hb => ?_⟩
    case refine_3 =>
      rw [hb.slice]
      have hsum : (l.map r.bulk).sum ≤ uba (elems.map (·.1)) := bulk_sum hb (by simp; omega) fun i y z hy hz => by
        rw [List.getElem?_map, Option.map_eq_some_iff] at hz
        obtain ⟨z', hz', rfl⟩ := hz
        exact ((hl' i y hy).1 z' hz').2
      show (l.map r.bulk).sum + 1 ≤ _
      omega
    case refine_2 =>
      simp only [DataW.weights, ht, List.all_cons, List.all_append, Bool.and_eq_true, decide_eq_true_eq, List.length_map] at hw
      refine ⟨?_, fun x hx => ?_⟩
      · have h1 := hw.1
        rw [he.2.1] at h1
        refine Nat.le_trans (Nat.mul_le_mul_right _ ?_) h1
        omega
      · obtain ⟨i, hi⟩ := List.getElem?_of_mem hx
        have hil := (List.getElem?_eq_some_iff.1 hi).1
        refine ((hl' i x hi).1 elems[i] (List.getElem?_eq_getElem (by omega))).1 ?_
        exact weights_mem hw.2.1 (List.mem_map_of_mem (List.getElem_mem _))
    have h0 := hl' 0 l[0] (List.getElem?_eq_getElem hpos')
    obtain ⟨_, ys, hok, hcell⟩ := h0
    have hylen := r.len hok
    have hc0 := hcell 0 ys[0] (List.getElem?_eq_getElem (by omega))
    have ha : a = ⟨a.block, a.off, none⟩ := by
      simp [Addr.add] at hc0
      unfold World.cell? at hc0
      split at hc0
      · split at hc0
        · cases hc0
        · rename_i hsp
          cases a with
          | mk b o s => cases s with
            | none => rfl
            | some s => simp at hsp
      · cases hc0
    have hblk := World.block_lt_of_cell? W _ hc0
    refine ⟨a.block, a.off, by rw [← ha], ?_, fun i y hi => ?_⟩
    · rw [ha] at hblk
      simpa [Addr.add] using hblk
    · obtain ⟨_, ys, hok, hcell⟩ := hl' i y hi
      refine ⟨ys, hok, fun j u hj => ?_⟩
      have := hcell j u hj
      rw [ha, Addr.add_lit] at this
      exact this

/-- Fields, from a place on. -/
def OpensF {α : Type} (P : Program) (fs : List Field) (off : Nat) (r : Rep α) : Prop := ∀ (H : Type) (enc : TypeId × Value → H) (W : World) (base : Nat) (sp : Nat → Bool) (held : Bool) (n : Nat) (cs : List Value) (xs : List (DataW H × List MemPlace)),
  cs.length = off + r.size → xs.length = fs.length → (∀ (i : Nat) (f : Field), fs[i]? = some f → DataW.trod enc P W base sp held n f.type ((cs.drop f.offset).take (P.cellsOf f.type)) = xs[i]?) → ∃ a, r.ok W W.heap.size (cs.drop off) a ∧ ((DataW.weightsEach P (fs.map (·.type)) (xs.map (·.1))).all (· ≤ reachBytes) = true → r.fit a) ∧ BulkLes (r.bulk a) (xs.map (·.1))

theorem opensF_one {α : Type} {r : Rep α} {f : Field} (hf : Opens P f.type r) : OpensF P [f] f.offset r := by
  intro H enc W base sp held n cs xs hl hxs h
  have h0 := h 0 f rfl
  rw [List.getElem?_eq_getElem (by rw [hxs]; simp)] at h0
  obtain ⟨a, ha, hfit, hbk⟩ := hf.2.2 enc W base sp held n _ _ h0
  rw [hf.1, List.take_of_length_le (by simp; omega)] at ha
  refine ⟨a, ha, fun hw => hfit ?_, fun ub uba hb => ?_⟩
  case refine_2 =>
    cases xs with
    | nil => simp at hxs
    | cons y ys =>
      have := hbk ub uba hb
      simp only [List.map_cons, hb.allc]
      simp only [List.getElem_cons_zero] at this
      omega
  cases xs with
  | nil => simp at hxs
  | cons y ys =>
    simp only [List.map_cons, DataW.weightsEach, List.all_append, Bool.and_eq_true] at hw
    exact hw.1

theorem opensF_cons {α β : Type} {r : Rep α} {s : Rep β} {f : Field} {fs : List Field} (hf : Opens P f.type r) (hfs : OpensF P fs (f.offset + r.size) s) : OpensF P (f :: fs) f.offset (r.prod s) := by
  intro H enc W base sp held n cs xs hl hxs h
  have hrs : (r.prod s).size = r.size + s.size := rfl
  have h0 := h 0 f rfl
  rw [List.getElem?_eq_getElem (by rw [hxs]; simp)] at h0
  obtain ⟨a, ha, hfit, hbk⟩ := hf.2.2 enc W base sp held n _ _ h0
  rw [hf.1] at ha
  obtain ⟨b, hb, hfit', hbk'⟩ := hfs H enc W base sp held n cs xs.tail (by omega) (by simp [hxs]) (fun i g hg => by
    have := h (i + 1) g (by simpa using hg)
    rw [this]; simp)
  refine ⟨(a, b), ⟨_, _, ?_, ha, hb⟩, fun hw => ?_, fun ub uba hu => ?_⟩
  case refine_3 =>
    cases xs with
    | nil => simp at hxs
    | cons y ys =>
      have h1 := hbk ub uba hu
      have h2 := hbk' ub uba hu
      simp only [List.map_cons, hu.allc]
      simp only [List.getElem_cons_zero, List.tail_cons] at h1 h2
      show r.bulk a + s.bulk b ≤ _
      omega
  case refine_2 =>
    cases xs with
    | nil => simp at hxs
    | cons y ys =>
      simp only [List.map_cons, DataW.weightsEach, List.all_append, Bool.and_eq_true] at hw
      exact ⟨hfit hw.1, hfit' hw.2⟩
  rw [show cs.drop (f.offset + r.size) = (cs.drop f.offset).drop r.size by rw [List.drop_drop]]
  exact (List.take_append_drop _ _).symm

theorem opens_struct {α : Type} {r : Rep α} {fs : Array Field} (ht : P.underlying t = some (.struct fs)) (hc : P.cellsOf t = r.size) (hb : P.bytesOf t = r.bytes) (hfs : OpensF P fs.toList 0 r) : Opens P t r := by
  refine ⟨hc, hb, fun enc W base sp held fuel cs x h => ?_⟩
  obtain ⟨xs, n, _, rfl, hl, hxs, hf⟩ := DataW.trod_struct ht h
  obtain ⟨a, ha, hfit, hbk⟩ := hfs _ enc W base sp held n cs xs (by omega) (by simpa using hxs) (fun i f hi => hf i f (by simpa using hi))
  refine ⟨a, by simpa using ha, fun hw => hfit ?_, fun ub uba hb => by have := hbk ub uba hb; rw [hb.agg]; omega⟩
  simpa [DataW.weights, ht] using hw

theorem opens_map {α β : Type} {r : Rep α} {f : β → α} {g : α → β} (hg : ∀ a, f (g a) = a) (h : Opens P t r) : Opens P t (r.map f) := by
  refine ⟨h.1, h.2.1, fun enc W base sp held fuel cs x hx => ?_⟩
  obtain ⟨a, ha, hf, hb⟩ := h.2.2 enc W base sp held fuel cs x hx
  exact ⟨g a, by show r.ok _ _ _ _; rw [hg]; exact ha, fun hw => by show r.fit _; rw [hg]; exact hf hw, by show BulkLe (r.bulk (f (g a))) _; rw [hg]; exact hb⟩

theorem str_at1 {w : World} {B : Nat} {v : Value} {s : ByteArray} (h : rStr.at1 w B v s) : v = .string s ∧ s.size ≤ maxLen := by
  obtain ⟨h1, h2⟩ := h
  injection h1 with h1
  exact ⟨h1, h2⟩
theorem int_at1 {w : World} {B : Nat} {v : Value} {x : Int} (h : rInt.at1 w B v x) : v = .int .i64 x ∧ inI64 x := by
  obtain ⟨h1, h2⟩ := h
  injection h1 with h1
  exact ⟨h1, h2⟩
/-- An argument of one cell. -/
theorem open_arg1 {α : Type} {r : Rep α} {H : Type} {enc : TypeId × Value → H} {W : World} {base : Nat} {sp : Nat → Bool} {held : Bool} {v : Value} {d : DataW H} {ps : List MemPlace} (ho : Opens P t r) (hv : v.cells = #[v]) (h : DataW.Trod enc P W base sp held t v d ps) :
    ∃ a, r.at1 W W.heap.size v a ∧ ((d.weights P t).all (· ≤ reachBytes) = true → r.fit a) ∧ BulkLe (r.bulk a) d := by
  obtain ⟨fuel, hf⟩ := h
  rw [hv] at hf
  exact ho.2.2 enc W base sp held fuel _ _ hf
/-- A struct's. -/
theorem open_argN {α : Type} {r : Rep α} {H : Type} {enc : TypeId × Value → H} {W : World} {base : Nat} {sp : Nat → Bool} {held : Bool} {v : Value} {d : DataW H} {ps : List MemPlace} {cs : Array Value} (ho : Opens P t r) (hv : v = .agg cs) (h : DataW.Trod enc P W base sp held t v d ps) :
    ∃ a, r.atN W W.heap.size v a ∧ ((d.weights P t).all (· ≤ reachBytes) = true → r.fit a) ∧ BulkLe (r.bulk a) d := by
  obtain ⟨fuel, hf⟩ := h
  subst hv
  obtain ⟨a, ha, hfit, hbk⟩ := ho.2.2 enc W base sp held fuel _ _ hf
  exact ⟨a, ⟨cs.toList, by simp, ha⟩, hfit, hbk⟩
end
end Go.Px

/-
  Memory in pieces: each piece lies in blocks of its own; what is done to one leaves the others.
-/
namespace Go.Px
open Go.RowKit

/-- A piece of memory. -/
structure Ch where
  ok : World → (Nat → Prop) → Prop
  keep : ∀ {w w' : World} {X F F' : Nat → Prop}, ok w F → Chg X w w' → (∀ b, b < w.heap.size → F b → ¬ X b) → (∀ b, b < w.heap.size → F b → F' b) → ok w' F'

/-- Pieces, each with blocks of its own. -/
def allOk (L : List Ch) (w : World) (F : Nat → Prop) : Prop :=
  ∃ T : Nat → Nat, (∀ i, T i ≠ 0 → F i ∧ i < w.heap.size) ∧ ∀ (k : Nat) (c : Ch), L[k]? = some c → c.ok w (fun i => T i = k + 1)

theorem allOk.keep {L : List Ch} {w w' : World} {X F F' : Nat → Prop} (h : allOk L w F) (hc : Chg X w w') (hX : ∀ b, b < w.heap.size → F b → ¬ X b) (hF : ∀ b, b < w.heap.size → F b → F' b) : allOk L w' F' := by
  obtain ⟨T, ht, hk⟩ := h
  exact ⟨T, fun i hi => ⟨hF i (ht i hi).2 (ht i hi).1, Nat.lt_of_lt_of_le (ht i hi).2 hc.size⟩, fun k c hc' => c.keep (hk k c hc') hc (fun b hb e => hX b hb (ht b (by omega)).1) fun b _ e => e⟩

def Ch.all (L : List Ch) : Ch := ⟨allOk L, allOk.keep⟩
def Ch.ex {α : Type} (f : α → Ch) : Ch := ⟨fun w F => ∃ a, (f a).ok w F, fun ⟨a, h⟩ hc hX hF => ⟨a, (f a).keep h hc hX hF⟩⟩
/-- A piece with a fact. -/
def Ch.fact (p : Prop) (c : Ch) : Ch := ⟨fun w F => p ∧ c.ok w F, fun ⟨hp, h⟩ hc hX hF => ⟨hp, c.keep h hc hX hF⟩⟩
def Ch.emp : Ch := ⟨fun _ _ => True, fun _ _ _ _ => trivial⟩

/-- From W on nothing has turned but blocks G of W's; and there are these pieces, in those or in new ones. -/
structure St (G : Nat → Prop) (W w : World) (L : List Ch) : Prop where
  chg : Chg G W w
  all : allOk L w (fun i => i < W.heap.size → G i)

abbrev noB : Nat → Prop := fun _ => False

section
variable {G : Nat → Prop} {W w w' : World} {L L' : List Ch}

theorem St.start (h : Chg G W w) : St G W w [] := ⟨h, fun _ => 0, fun i hi => absurd rfl hi, fun k c hk => by simp at hk⟩
theorem St.refl (G : Nat → Prop) (w : World) : St G w w [] := St.start (Chg.refl _ _)

/-- What a call may do to a piece that it is given. -/
theorem St.enter {F : Nat → Prop} (h : allOk L w F) : St F w w L := by
  obtain ⟨T, ht, hk⟩ := h
  exact ⟨Chg.refl _ _, T, fun i hi => ⟨fun _ => (ht i hi).1, (ht i hi).2⟩, hk⟩
theorem St.leave {F : Nat → Prop} (h : St F w w' L) : allOk L w' (fun i => F i ∨ (w.heap.size ≤ i ∧ i < w'.heap.size)) := by
  obtain ⟨_, T, ht, hk⟩ := h
  refine ⟨T, fun i hi => ⟨?_, (ht i hi).2⟩, hk⟩
  by_cases hlt : i < w.heap.size
  · exact Or.inl ((ht i hi).1 hlt)
  · exact Or.inr ⟨by omega, (ht i hi).2⟩

theorem St.get (h : St G W w L) {k : Nat} {c : Ch} (hk : L[k]? = some c) : ∃ F : Nat → Prop, c.ok w F ∧ ∀ i, F i → i < w.heap.size ∧ (i < W.heap.size → G i) := by
  obtain ⟨_, T, ht, hL⟩ := h
  exact ⟨_, hL k c hk, fun i hi => ⟨(ht i (by omega)).2, (ht i (by omega)).1⟩⟩

theorem St.old (h : St G W w L) (hc : Chg noB w w') : St G W w' L :=
  ⟨h.chg.trans' hc fun _ _ h => h.elim, h.all.keep hc (fun _ _ _ => id) (fun _ _ h => h)⟩

/-- A piece is turned. -/
theorem St.opn (h : St G W w L) {k : Nat} {c0 : Ch} (hk : L[k]? = some c0) :
    ∃ F : Nat → Prop, c0.ok w F ∧ (∀ i, F i → i < w.heap.size ∧ (i < W.heap.size → G i)) ∧ ∀ (w' : World) (c : Ch), Chg F w w' → c.ok w' (fun i => F i ∨ (w.heap.size ≤ i ∧ i < w'.heap.size)) → St G W w' (L.set k c) := by
  obtain ⟨hc0, T, ht, hL⟩ := h
  refine ⟨fun i => T i = k + 1, hL k c0 hk, fun i hi => ⟨(ht i (by omega)).2, (ht i (by omega)).1⟩, fun w' c hc hok => ⟨?_, fun i => if w.heap.size ≤ i ∧ i < w'.heap.size then k + 1 else T i, fun i hi => ?_, fun j d hj => ?_⟩⟩
  · exact hc0.trans' hc fun i hi e => (ht i (by omega)).1 hi
  · by_cases e : w.heap.size ≤ i ∧ i < w'.heap.size
    · exact ⟨fun h => by have := hc0.size; omega, e.2⟩
    · dsimp only at hi; rw [if_neg e] at hi
      exact ⟨(ht i hi).1, Nat.lt_of_lt_of_le (ht i hi).2 hc.size⟩
  · rw [List.getElem?_set] at hj
    by_cases e : k = j
    · subst e
      have hkl := (List.getElem?_eq_some_iff.1 hk).1
      rw [if_pos rfl, if_pos hkl] at hj
      injection hj with hj
      subst hj
      refine c.keep (X := noB) hok (Chg.refl _ _) (fun _ _ _ => id) fun i hi e => ?_
      rcases e with e | e
      · have h1 := (ht i (by omega)).2
        dsimp only; rw [if_neg (by omega)]; exact e
      · dsimp only; rw [if_pos e]
    · rw [if_neg e] at hj
      refine d.keep (hL j d hj) hc (fun i hi e1 e2 => by omega) fun i hi e1 => ?_
      dsimp only; rw [if_neg (by omega)]; exact e1

/-- New pieces. -/
theorem St.seq (h : St G W w L) (h2 : St noB w w' L') : St G W w' (L ++ L') := by
  obtain ⟨hc, T, ht, hL⟩ := h
  obtain ⟨hc2, T2, ht2, hL2⟩ := h2
  refine ⟨hc.trans' hc2 fun _ _ h => h.elim, fun i => if T2 i ≠ 0 then T2 i + L.length else T i, fun i hi => ?_, fun k c hk => ?_⟩
  · by_cases e : T2 i ≠ 0
    · exact ⟨fun hi => ((ht2 i e).1 (by have := hc.size; omega)).elim, (ht2 i e).2⟩
    · dsimp only at hi; rw [if_neg e] at hi
      exact ⟨(ht i hi).1, Nat.lt_of_lt_of_le (ht i hi).2 hc2.size⟩
  · by_cases hkl : k < L.length
    · rw [List.getElem?_append_left hkl] at hk
      refine c.keep (hL k c hk) hc2 (fun _ _ _ => id) fun i hi e => ?_
      dsimp only; rw [if_neg]; exact e
      intro h0
      exact ((ht2 i h0).1 hi).elim
    · rw [List.getElem?_append_right (by omega)] at hk
      refine c.keep (X := noB) (hL2 _ c hk) (Chg.refl _ _) (fun _ _ _ => id) fun i hi e => ?_
      dsimp only; rw [if_pos (by omega)]; omega

theorem St.take (h : St G W w L) (n : Nat) : St G W w (L.take n) := by
  obtain ⟨hc, T, ht, hL⟩ := h
  refine ⟨hc, T, ht, fun k c hk => hL k c ?_⟩
  rw [List.getElem?_take] at hk
  split at hk
  · exact hk
  · cases hk

/-- Some of the pieces, in another order. -/
theorem St.pick (h : St G W w L) (is : List Nat) (hnd : is.Nodup) (hL : is.map (fun i => L[i]?) = L'.map some) : St G W w L' := by
  obtain ⟨hc, T, ht, hk⟩ := h
  refine ⟨hc, fun i => if T i = 0 then 0 else if T i - 1 ∈ is then is.idxOf (T i - 1) + 1 else 0, fun i hi => ?_, fun k c hc' => ?_⟩
  · refine ht i fun h0 => ?_
    dsimp only at hi
    rw [if_pos h0] at hi
    exact hi rfl
  · have h1 : (is.map (fun i => L[i]?))[k]? = some (some c) := by rw [hL, List.getElem?_map, hc']; rfl
    rw [List.getElem?_map] at h1
    cases hi : is[k]? with
    | none => rw [hi] at h1; cases h1
    | some n =>
      rw [hi] at h1
      injection h1 with h1
      refine c.keep (X := noB) (hk n c h1) (Chg.refl _ _) (fun _ _ _ => id) fun i _ e => ?_
      have hnm : n ∈ is := List.mem_of_getElem? hi
      have hidx : is.idxOf n = k := by
        have hkl := (List.getElem?_eq_some_iff.1 hi).1
        have hke := (List.getElem?_eq_some_iff.1 hi).2
        rw [← hke]
        exact hnd.idxOf_getElem k hkl
      have e' : T i = n + 1 := e
      simp only [e', Nat.add_sub_cancel, hnm, if_true, hidx]
      rw [if_neg (by omega)]

theorem St.push (h : St G W w L) {c : Ch} (hc : c.ok w noB) : St G W w (L ++ [c]) := by
  refine h.seq (w' := w) ⟨Chg.refl _ _, fun _ => 0, fun i hi => absurd rfl hi, fun k d hk => ?_⟩
  match k, hk with
  | 0, hk => injection hk with hk; subst hk; exact c.keep hc (Chg.refl noB _) (fun _ _ _ => id) (fun _ _ h => h.elim)
  | k + 1, hk => simp at hk

/-- A piece is laid to another one. -/
theorem St.merge (h : St G W w L) {j k : Nat} {c d : Ch} (hj : L[j]? = some c) (hk : L[k]? = some d) (hjk : j ≠ k) {e : Ch} (he : ∀ F F', c.ok w F → d.ok w F' → e.ok w (fun i => F i ∨ F' i)) : St G W w ((L.set j Ch.emp).set k e) := by
  obtain ⟨hc, T, ht, hL⟩ := h
  refine ⟨hc, fun i => if T i = j + 1 then k + 1 else T i, fun i hi => ?_, fun n x hn => ?_⟩
  · by_cases e : T i = j + 1
    · exact ht i (by omega)
    · dsimp only at hi; rw [if_neg e] at hi; exact ht i hi
  · rw [List.getElem?_set] at hn
    by_cases e1 : k = n
    · subst e1
      have hkl := (List.getElem?_eq_some_iff.1 hk).1
      rw [if_pos rfl, if_pos (by simpa using hkl)] at hn
      injection hn with hn
      subst hn
      refine e.keep (X := noB) (he _ _ (hL j c hj) (hL k d hk)) (Chg.refl _ _) (fun _ _ _ => id) fun i hi e => ?_
      rcases e with e | e
      · dsimp only; rw [if_pos e]
      · dsimp only; rw [if_neg (by omega)]; exact e
    · rw [if_neg e1, List.getElem?_set] at hn
      by_cases e2 : j = n
      · subst e2
        have hjl := (List.getElem?_eq_some_iff.1 hj).1
        rw [if_pos rfl, if_pos hjl] at hn
        injection hn with hn
        subst hn; trivial
      · rw [if_neg e2] at hn
        refine x.keep (X := noB) (hL n x hn) (Chg.refl _ _) (fun _ _ _ => id) fun i hi e => ?_
        dsimp only; rw [if_neg (by omega)]; exact e

/-- A piece is seen in another way. -/
theorem St.turn (h : St G W w L) {k : Nat} {c d : Ch} (hk : L[k]? = some c) (hd : ∀ F, c.ok w F → d.ok w F) : St G W w (L.set k d) := by
  obtain ⟨F, ho, _, hs⟩ := h.opn hk
  exact hs w d (Chg.refl _ _) (d.keep (hd F ho) (Chg.refl noB _) (fun _ _ _ => id) fun _ _ h => Or.inl h)
end

/-! ### Kinds of pieces -/
/-- A block of its own. -/
def boxC (b : Nat) (t : TypeId) (cs : List Value) : Ch where
  ok w F := F b ∧ w.heap[b]? = some (.cells cs.toArray t (0, 0))
  keep h hc hX hF := by
    have hb := (Array.getElem?_eq_some_iff.1 h.2).1
    exact ⟨hF _ hb h.1, (hc.block b hb (hX b hb h.1)).trans h.2⟩

/-- A row that is owned: it may grow. -/
def rowC (e : TypeId) (size : Nat) (a : Option Addr) (n c : Nat) (xs : List Value) : Ch where
  ok w F := w.ownsRow 0 e size (.slice a n c) n xs ∧ ∀ i, (Value.slice a n c).ownBlock = some i → F i
  keep h hc hX hF := by
    have hb := fun i hi => (ownsRow_block h.1 (k := i) hi).2
    refine ⟨?_, fun i hi => hF i (hb i hi) (h.2 i hi)⟩
    refine ⟨h.1.1, ?_⟩
    rcases h.1.2 with h2 | ⟨g, cap, cur, hv, hbs, hg, hr⟩
    · exact Or.inl h2
    · refine Or.inr ⟨g, cap, cur, hv, hbs, ?_, hr⟩
      have := hb g (by rw [hv]; rfl)
      rw [hc.block g this (hX g this (h.2 g (by rw [hv]; rfl)))]
      exact hg

/-- A map that is owned. -/
def mapC (P : Program) {κ : Type} (Y : KeyT κ) (k e : TypeId) (v : Value) (n : Nat) (f : κ → Int) : Ch where
  ok w F := MapOf P Y k e w v n f ∧ ∀ i, v = .map (some i) → F i
  keep h hc hX hF := ⟨h.1.chg hc fun i hi => hX i (h.1.lt hi) (h.2 i hi), fun i hi => hF i (h.1.lt hi) (h.2 i hi)⟩

/-- Rows that are owned, one for each; they need not be unlike. -/
def rowsC (e : TypeId) (size : Nat) (vs : List Value) (xss : List (List Value)) : Ch where
  ok w F := vs.length = xss.length ∧ ∀ (i : Nat) v xs, vs[i]? = some v → xss[i]? = some xs → ∃ a n c, v = .slice a n c ∧ (rowC e size a n c xs).ok w F
  keep h hc hX hF := ⟨h.1, fun i v xs h1 h2 => by obtain ⟨a, n, c, hv, hr⟩ := h.2 i v xs h1 h2; exact ⟨a, n, c, hv, (rowC e size a n c xs).keep hr hc hX hF⟩⟩

/-- What lies in a block's cells. -/
def boxAt (w : World) (b : Nat) : Nat → List Value → Prop
  | _, [] => True
  | j, v :: r => w.cell? ⟨b, j, none⟩ = some v ∧ boxAt w b (j + 1) r

theorem boxAt_of {w : World} {b : Nat} : ∀ {cs : List Value} {j : Nat}, (∀ i u, cs[i]? = some u → w.cell? ⟨b, j + i, none⟩ = some u) → boxAt w b j cs
  | [], _, _ => trivial
  | v :: r, j, h => ⟨h 0 v rfl, boxAt_of (cs := r) (j := j + 1) fun i u hi => by rw [show j + 1 + i = j + (i + 1) by omega]; exact h (i + 1) u (by simpa using hi)⟩

section
variable {G : Nat → Prop} {W w w' : World} {L L' : List Ch}

theorem box_of {b : Nat} {t : TypeId} {cs : List Value} {F : Nat → Prop} (h : (boxC b t cs).ok w F) : boxAt w b 0 cs ∧ (∀ j, w.frozen? ⟨b, j, none⟩ = false) ∧ b < w.heap.size := by
  refine ⟨boxAt_of fun i u hi => ?_, fun j => ?_, (Array.getElem?_eq_some_iff.1 h.2).1⟩
  · simp only [World.cell?, h.2, Nat.zero_add]
    simpa using hi
  · simp [World.frozen?, h.2]

theorem St.box (h : St G W w L) (k : Nat) {b : Nat} {t : TypeId} {cs : List Value} (hk : L[k]? = some (boxC b t cs)) : boxAt w b 0 cs ∧ (∀ j, w.frozen? ⟨b, j, none⟩ = false) ∧ b < w.heap.size := by
  obtain ⟨F, ho, _⟩ := h.get hk
  exact box_of ho

theorem chg_setCell (w : World) (p : Addr) (u : Value) : Chg (· = p.block) w (w.setCell p u) := (Chg.refl (fun x => x = p.block) w).setCell (p := p) (Or.inl rfl) u

theorem St.set (h : St G W w L) (k : Nat) {b : Nat} {t : TypeId} {cs : List Value} (hk : L[k]? = some (boxC b t cs)) (j : Nat) (u : Value) : St G W (w.setCell ⟨b, j, none⟩ u) (L.set k (boxC b t (cs.set j u))) := by
  obtain ⟨F, ho, _, hs⟩ := h.opn hk
  refine hs _ _ ((chg_setCell _ _ _).mono fun i _ e => by rw [e]; exact ho.1) ⟨Or.inl ho.1, ?_⟩
  rw [heap_setCell_same w b j cs.toArray t u ho.2, List.setIfInBounds_toArray]

theorem St.alloc (h : St G W w L) (cs : Array Value) (t : TypeId) : St G W (w.alloc (.cells cs t)) (L ++ [boxC w.heap.size t cs.toList]) := by
  refine h.seq ⟨(Chg.refl _ _).alloc _, fun i => if i = w.heap.size then 1 else 0, fun i hi => ?_, fun k d hk => ?_⟩
  · by_cases e : i = w.heap.size
    · subst e; exact ⟨fun h => absurd h (Nat.lt_irrefl _), by simp⟩
    · dsimp only at hi; rw [if_neg e] at hi; exact absurd rfl hi
  · match k, hk with
    | 0, hk => injection hk with hk; subst hk; exact ⟨by simp, by simpa using World.alloc_heap_new w _⟩
    | k + 1, hk => simp at hk

theorem St.map (h : St G W w L) (P : Program) {κ : Type} (Y : KeyT κ) (k e : TypeId) : St G W (w.alloc (.map #[] 0)) (L ++ [mapC P Y k e (.map (some w.heap.size)) 0 (fun _ => 0)]) := by
  refine h.seq ⟨(Chg.refl _ _).alloc _, fun i => if i = w.heap.size then 1 else 0, fun i hi => ?_, fun k d hk => ?_⟩
  · by_cases e : i = w.heap.size
    · subst e; exact ⟨fun h => absurd h (Nat.lt_irrefl _), by simp⟩
    · dsimp only at hi; rw [if_neg e] at hi; exact absurd rfl hi
  · match k, hk with
    | 0, hk => injection hk with hk; subst hk; exact ⟨MapOf.made _ _ _ _ _, fun i hi => by injection hi with hi; injection hi with hi; simp [hi]⟩
    | k + 1, hk => simp at hk

/-- A row that is made of so many values. -/
theorem St.lit (h : St G W w L) (e : TypeId) (size n : Nat) (cs : Array Value) (hn : n ≤ maxLen) (hs : cs.size = n * size) : St G W (w.alloc (.cells cs e)) (L ++ [rowC e size (some ⟨w.heap.size, 0, none⟩) n n cs.toList]) := by
  refine h.seq ⟨(Chg.refl _ _).alloc _, fun i => if i = w.heap.size then 1 else 0, fun i hi => ?_, fun k d hk => ?_⟩
  · by_cases e : i = w.heap.size
    · subst e; exact ⟨fun h => absurd h (Nat.lt_irrefl _), by simp⟩
    · dsimp only at hi; rw [if_neg e] at hi; exact absurd rfl hi
  · match k, hk with
    | 0, hk => injection hk with hk; subst hk; exact ⟨World.ownsRow_lit w cs n (Nat.zero_le _) hn hs, fun i hi => by injection hi with hi; simp [← hi]⟩
    | k + 1, hk => simp at hk

theorem rowC_nil (w : World) (e : TypeId) (size : Nat) (F : Nat → Prop) : (rowC e size none 0 0 []).ok w F := ⟨World.ownsRow_nil _ _ _ _, fun i hi => by cases hi⟩
theorem St.nilRow (h : St G W w L) (e : TypeId) (size : Nat) : St G W w (L ++ [rowC e size none 0 0 []]) := h.push (rowC_nil _ _ _ _)

/-- A row in new blocks. -/
theorem St.ofRow {e : TypeId} {size : Nat} {a : Option Addr} {n c : Nat} {xs : List Value} (hr : w'.ownsRow w.heap.size e size (.slice a n c) n xs) (hc : Chg noB w w') : St noB w w' [rowC e size a n c xs] := by
  refine ⟨hc, fun i => if (Value.slice a n c).ownBlock = some i then 1 else 0, fun i hi => ?_, fun k d hk => ?_⟩
  · by_cases e : (Value.slice a n c).ownBlock = some i
    · have := ownsRow_block hr e
      exact ⟨fun h => by omega, this.2⟩
    · dsimp only at hi; rw [if_neg e] at hi; exact absurd rfl hi
  · match k, hk with
    | 0, hk =>
      injection hk with hk; subst hk
      refine ⟨⟨hr.1, ?_⟩, fun i hi => by dsimp only; rw [if_pos hi]⟩
      rcases hr.2 with h2 | ⟨g, cap, cur, hv, hb, hg, hrr⟩
      · exact Or.inl h2
      · exact Or.inr ⟨g, cap, cur, hv, Nat.zero_le _, hg, hrr⟩
    | k + 1, hk => simp at hk

/-- What is owned, at a place. -/
theorem row_at {e : TypeId} {size : Nat} {a : Option Addr} {n c : Nat} {xs : List Value} {F : Nat → Prop} (h : (rowC e size a n c xs).ok w F) {j : Nat} (hj : j < xs.length) :
    ∃ g, a = some ⟨g, 0, none⟩ ∧ w.cell? ⟨g, j, none⟩ = some xs[j] ∧ w.frozen? ⟨g, j, none⟩ = false ∧ F g ∧ g < w.heap.size := by
  rcases h.1.2 with ⟨h1, h2⟩ | ⟨g, cap, cur, hv, hb, hg, hn, hm, hs, ht⟩
  · have := h.1.1; rw [h2] at this; omega
  · injection hv with hv
    refine ⟨g, hv, ?_, ?_, h.2 g (by rw [hv]; rfl), (Array.getElem?_eq_some_iff.1 hg).1⟩
    · have h3 : cur.toList[j]? = some xs[j] := by
        have h4 : (cur.toList.take (n * size))[j]? = some xs[j] := by rw [ht]; exact List.getElem?_eq_getElem hj
        rw [List.getElem?_take] at h4
        split at h4
        · exact h4
        · cases h4
      simp [World.cell?, hg, ← h3]
    · simp [World.frozen?, hg]

theorem row_size {e : TypeId} {size : Nat} {a : Option Addr} {n c : Nat} {xs : List Value} {F : Nat → Prop} (h : (rowC e size a n c xs).ok w F) : xs.length = n * size ∧ n ≤ c ∧ c ≤ maxLen := by
  refine ⟨h.1.1, ?_⟩
  rcases h.1.2 with ⟨h1, h2⟩ | ⟨g, cap, cur, hv, hb, hg, hn, hm, hs, ht⟩
  · injection h1 with _ h1 h3; subst h2 h3; exact ⟨Nat.le_refl _, by simp [maxLen]⟩
  · injection hv with _ _ hv; subst hv; exact ⟨hn, hm⟩

theorem St.rowSize (h : St G W w L) (k : Nat) {e : TypeId} {size : Nat} {a : Option Addr} {n c : Nat} {xs : List Value} (hk : L[k]? = some (rowC e size a n c xs)) : xs.length = n * size ∧ n ≤ c ∧ c ≤ maxLen := by
  obtain ⟨F, ho, _⟩ := h.get hk
  exact row_size ho

theorem St.rowAt (h : St G W w L) (k : Nat) {e : TypeId} {size : Nat} {a : Option Addr} {n c : Nat} {xs : List Value} (hk : L[k]? = some (rowC e size a n c xs)) {j : Nat} (hj : j < xs.length) :
    ∃ g, a = some ⟨g, 0, none⟩ ∧ w.cell? ⟨g, j, none⟩ = some xs[j] ∧ w.frozen? ⟨g, j, none⟩ = false := by
  obtain ⟨F, ho, _⟩ := h.get hk
  obtain ⟨g, h1, h2, h3, _⟩ := row_at ho hj
  exact ⟨g, h1, h2, h3⟩

theorem St.setRow (h : St G W w L) (k : Nat) {e : TypeId} {size g n c : Nat} {xs : List Value} (hk : L[k]? = some (rowC e size (some ⟨g, 0, none⟩) n c xs)) (j : Nat) (u : Value) :
    St G W (w.setCell ⟨g, j, none⟩ u) (L.set k (rowC e size (some ⟨g, 0, none⟩) n c (xs.set j u))) := by
  obtain ⟨F, ho, _, hs⟩ := h.opn hk
  have hg := ho.2 g rfl
  refine hs _ _ ((chg_setCell _ _ _).mono fun i _ e => by rw [e]; exact hg) ⟨(ho.1.stored j u).1, fun i hi => Or.inl (ho.2 i hi)⟩

/-- The last elements are let go. -/
theorem St.popRow (h : St G W w L) (k : Nat) {e : TypeId} {size : Nat} {a : Option Addr} {n c : Nat} {xs last : List Value} (hk : L[k]? = some (rowC e size a (n + 1) c (xs ++ last))) (hx : xs.length = n * size) : St G W w (L.set k (rowC e size a n c xs)) := by
  refine h.turn hk fun F ho => ?_
  rcases ho.1.2 with ⟨h1, h2⟩ | ⟨g, cap, cur, hv, hb, hg, hn, hm, hs, ht⟩
  · omega
  · injection hv with hv
    subst hv
    exact ⟨ownsRow_pop hx ho.1, fun i hi => ho.2 i hi⟩

/-- A row more among those that are owned. -/
theorem rowsC_snoc {e : TypeId} {size : Nat} {a : Option Addr} {n c : Nat} {xs : List Value} {vs : List Value} {xss : List (List Value)} {F F' : Nat → Prop} (h : (rowC e size a n c xs).ok w F) (h' : (rowsC e size vs xss).ok w F') : (rowsC e size (vs ++ [.slice a n c]) (xss ++ [xs])).ok w (fun i => F i ∨ F' i) := by
  refine ⟨by simp [h'.1], fun i v ys h1 h2 => ?_⟩
  by_cases hi : i < vs.length
  · rw [List.getElem?_append_left hi] at h1
    rw [List.getElem?_append_left (by rw [← h'.1]; exact hi)] at h2
    obtain ⟨a', n', c', hv, hr⟩ := h'.2 i v ys h1 h2
    exact ⟨a', n', c', hv, hr.1, fun j hj => Or.inr (hr.2 j hj)⟩
  · have hil := (List.getElem?_eq_some_iff.1 h1).1
    simp at hil
    have hie : i = vs.length := by omega
    subst hie
    rw [List.getElem?_append_right (Nat.le_refl _)] at h1
    rw [h'.1, List.getElem?_append_right (Nat.le_refl _)] at h2
    simp at h1 h2
    subst h1 h2
    exact ⟨a, n, c, rfl, h.1, fun j hj => Or.inl (h.2 j hj)⟩

/-- append, of any number of elements. -/
theorem St.appendN {P : Program} {X : Pan} {K : Value → World → Prop} (h : St G W w L) (k : Nat) {t ty e : TypeId} {z : Value} {size bytes : Nat} {a0 : Option Addr} {n c : Nat} {xs : List Value} (hk : L[k]? = some (rowC e size a0 n c xs))
    (ht : P.underlying t = some (.slice e)) (hi : (P.info? e).map (fun i => (i.zero, i.size, i.bytes)) = some (some z, size, bytes)) (hzs : z.cells.size = size) (hsz : 0 < size)
    {a : Addr} {m c1 : Nat} {news : List Value} (hl : news.length = m * size) (hnews : ∀ j u, news[j]? = some u → w.cell? (a.add j) = some u) (h1 : ∀ u ∈ news, u.oneCell' = true)
    (h63 : n + m ≤ maxLen) (hbytes : (n + m) * bytes ≤ maxBytes)
    (hK : ∀ a' cap w', St G W w' (L.set k (rowC e size a' (n + m) cap (xs ++ news))) → (0 < m → ∃ g, a' = some ⟨g, 0, none⟩) → K (.slice a' (n + m) cap) w') :
    RES X ((Builtin.append_ #[t, t] ty #[.slice a0 n c, .slice (some a) m c1]).run P w) K := by
  obtain ⟨i, hi, hz, hs1, hb1⟩ : ∃ i, P.info? e = some i ∧ i.zero = some z ∧ i.size = size ∧ i.bytes = bytes := by
    cases hq : P.info? e with
    | none => rw [hq] at hi; cases hi
    | some i => rw [hq] at hi; simp at hi; exact ⟨i, rfl, hi.1, hi.2.1, hi.2.2⟩
  obtain ⟨F, ho, hF, hs⟩ := h.opn hk
  obtain ⟨v', w', hrun, hown', hgr, hnil, hb⟩ := run_append_own_at (P := P) w 0 t ty e i z size bytes ht hi hz hs1 hb1 hzs hsz _ n xs ho.1 a m c1 news hl hnews h1 h63 hbytes (Nat.zero_le _)
  rw [hrun, RES_ok]
  have hc : Chg F w w' := ⟨hgr.os, hgr.tape, hgr.output, hgr.size, fun j hj hF => hgr.block j hj fun e => hF (ho.2 j e.symm)⟩
  have hfin : ∀ a' cap, v' = .slice a' (n + m) cap → (0 < m → ∃ g, a' = some ⟨g, 0, none⟩) → K v' w' := by
    rintro a' cap rfl hm
    refine hK a' cap w' (hs w' _ hc ⟨hown', fun j hj => ?_⟩) hm
    rcases hb with hb | hb
    · exact Or.inl (ho.2 j (hb ▸ hj))
    · rw [hb] at hj; injection hj with hj
      have := (ownsRow_block hown' (k := j) (by rw [hb, hj])).2
      exact Or.inr ⟨by omega, this⟩
  rcases hown'.2 with ⟨h1, h2⟩ | ⟨g, cap, cur, h1, _⟩
  · exact hfin none 0 (by rw [h1, h2]) fun h => by omega
  · exact hfin _ cap h1 fun _ => ⟨g, rfl⟩

/-- append, of one element that was just laid down. -/
theorem St.append1 {P : Program} {X : Pan} {K : Value → World → Prop} (h : St G W w L) (k : Nat) {t ty e : TypeId} {z : Value} {size bytes : Nat} {a0 : Option Addr} {n c : Nat} {xs : List Value} (hk : L[k]? = some (rowC e size a0 n c xs))
    (ht : P.underlying t = some (.slice e)) (hi : (P.info? e).map (fun i => (i.zero, i.size, i.bytes)) = some (some z, size, bytes)) (hzs : z.cells.size = size) (hsz : 0 < size)
    {c1 : Nat} {news : List Value} (hl : news.length = size) (h1 : ∀ u ∈ news, u.oneCell' = true)
    (h63 : n + 1 ≤ maxLen) (hbytes : (n + 1) * bytes ≤ maxBytes)
    (hK : ∀ g cap w', St G W w' (L.set k (rowC e size (some ⟨g, 0, none⟩) (n + 1) cap (xs ++ news))) → K (.slice (some ⟨g, 0, none⟩) (n + 1) cap) w') :
    RES X ((Builtin.append_ #[t, t] ty #[.slice a0 n c, .slice (some ⟨w.heap.size, 0, none⟩) 1 c1]).run P (w.alloc (.cells news.toArray e))) K := by
  have hc1 : Chg noB w (w.alloc (.cells news.toArray e)) := (Chg.refl _ _).alloc _
  refine (h.old hc1).appendN k hk ht hi hzs hsz (by omega) (alloc_cells w news e rfl) h1 h63 hbytes fun a' cap w' h' hm => ?_
  obtain ⟨g, rfl⟩ := hm (by omega)
  exact hK g cap w' h'

theorem St.append1d {P : Program} {X : Pan} {K : Value → World → Prop} (h : St G W w L) (k : Nat) {t ty e : TypeId} {z : Value} {size bytes : Nat} {a0 : Option Addr} {n c : Nat} {xs : List Value} (hk : L[k]? = some (rowC e size a0 n c xs))
    (ht : P.underlying t = some (.slice e)) (hi : (P.info? e).map (fun i => (i.zero, i.size, i.bytes)) = some (some z, size, bytes)) (hzs : z.cells.size = size) (hsz : 0 < size)
    {c1 : Nat} {news : List Value} (hl : news.length = size) (h1 : ∀ u ∈ news, u.oneCell' = true)
    (h63 : n + 1 ≤ maxLen) (hbytes : (n + 1) * bytes ≤ maxBytes)
    (hK : ∀ g cap w', St G W w' (L.set k (rowC e size (some ⟨g, 0, none⟩) (n + 1) cap (xs ++ news))) → K (.slice (some ⟨g, 0, none⟩) (n + 1) cap) w') :
    RES X ((Builtin.append_ #[t, t] ty #[.slice a0 n c, .slice (some ⟨w.heap.size, 0, none⟩) 1 c1]).run P (w.alloc (.cells news.toArray e)).drew) K := by
  have hc1 : Chg noB w (w.alloc (.cells news.toArray e)).drew := ((Chg.refl _ _).alloc _).drew
  refine (h.old hc1).appendN k hk ht hi hzs hsz (by omega) (fun j u hj => (alloc_cells w news e rfl j u hj)) h1 h63 hbytes fun a' cap w' h' hm => ?_
  obtain ⟨g, rfl⟩ := hm (by omega)
  exact hK g cap w' h'

open Classical in
/-- A map's entry is set. -/
theorem St.mapSet {P : Program} {κ : Type} {Y : KeyT κ} {t kt e : TypeId} (M : MapTy P Y t kt e) (h : St G W w L) (k : Nat) {b n : Nat} {f : κ → Int} (hk : L[k]? = some (mapC P Y kt e (.map (some b)) n f)) (a : κ) (ha : Y.good a) (hn : n < maxLen) {x : Int} (hx : inI64 x) (hx0 : x ≠ 0) :
    ∃ w', (Instr.mapUpdate t (.map (some b)) (Y.val a) (.int .i64 x)).run P w = .ok () w' ∧ St G W w' (L.set k (mapC P Y kt e (.map (some b)) (if f a = 0 then n + 1 else n) (fun c => if c = a then x else f c))) := by
  obtain ⟨F, ho, hF, hs⟩ := h.opn hk
  obtain ⟨w', hrun, hm, hg⟩ := ho.1.update M a ha hn hx hx0
  exact ⟨w', hrun, hs w' _ ⟨hg.os, hg.tape, hg.output, hg.size, fun j hj hF => hg.block j hj fun e => hF (ho.2 j (by injection e with e; rw [e]))⟩ ⟨hm, fun i hi => Or.inl (ho.2 i hi)⟩⟩

theorem St.mapPut {P : Program} {κ : Type} {Y : KeyT κ} {t kt e : TypeId} (M : MapTy P Y t kt e) (h : St G W w L) (k : Nat) {b n : Nat} {f : κ → Int} (hk : L[k]? = some (mapC P Y kt e (.map (some b)) n f)) (a : κ) (ha : Y.good a) (hn : n < maxLen) {x : Int} (hx : inI64 x) (hx0 : x ≠ 0)
    (n' : Nat) (f' : κ → Int) (h1 : f a = 0 → n' = n + 1) (h2 : f a ≠ 0 → n' = n) (h3 : f' a = x) (h4 : ∀ c, c ≠ a → f' c = f c) :
    ∃ w', (Instr.mapUpdate t (.map (some b)) (Y.val a) (.int .i64 x)).run P w = .ok () w' ∧ St G W w' (L.set k (mapC P Y kt e (.map (some b)) n' f')) := by
  obtain ⟨w', hrun, hst⟩ := h.mapSet M k hk a ha hn hx hx0
  refine ⟨w', hrun, ?_⟩
  have e1 : (if f a = 0 then n + 1 else n) = n' := by
    by_cases h0 : f a = 0
    · rw [if_pos h0, h1 h0]
    · rw [if_neg h0, h2 h0]
  have e2 : (fun c => @ite Int (c = a) (Classical.propDecidable _) x (f c)) = f' := by
    funext c
    by_cases hc : c = a
    · rw [if_pos hc, hc, h3]
    · rw [if_neg hc, h4 c hc]
  rw [← e1, ← e2]
  exact hst

theorem St.mapGet {P : Program} {κ : Type} {Y : KeyT κ} {t kt e : TypeId} (M : MapTy P Y t kt e) (h : St G W w L) (k : Nat) {v : Value} {n : Nat} {f : κ → Int} (hk : L[k]? = some (mapC P Y kt e v n f)) (a : κ) (ha : Y.good a) : (Instr.lookup t v (Y.val a) false).run P w = .ok (.int .i64 (f a)) w := by
  obtain ⟨F, ho, _⟩ := h.get hk
  exact ho.1.lookup M a ha
end

/-! ### Rows of structs -/
theorem flat_at {α : Type} {enc : α → List Value} {size : Nat} : ∀ {l : List α} {i : Nat} {x : α}, (∀ x ∈ l, (enc x).length = size) → l[i]? = some x → ∀ {j : Nat}, j < size → (l.flatMap enc)[i * size + j]? = (enc x)[j]?
  | [], _, _, _, h, _, _ => by simp at h
  | y :: l, 0, x, hs, h, j, hj => by
    simp at h; subst h
    rw [List.flatMap_cons, Nat.zero_mul, Nat.zero_add, List.getElem?_append_left (by rw [hs y (by simp)]; exact hj)]
  | y :: l, i + 1, x, hs, h, j, hj => by
    rw [List.flatMap_cons, List.getElem?_append_right (by rw [hs y (by simp), Nat.succ_mul]; omega), hs y (by simp), Nat.succ_mul, show i * size + size + j - size = i * size + j by omega]
    exact flat_at (fun z hz => hs z (by simp [hz])) (by simpa using h) hj
/-- An element of a row of structs. -/
theorem row_elem {α : Type} {enc : α → List Value} {w : World} {e : TypeId} {size : Nat} {a : Option Addr} {n c : Nat} {l : List α} {F : Nat → Prop} (h : (rowC e size a n c (l.flatMap enc)).ok w F) (hsz : ∀ x ∈ l, (enc x).length = size) (hpos : 0 < size) {i : Nat} {x : α} (hi : l[i]? = some x) :
    ∃ g, a = some ⟨g, 0, none⟩ ∧ (∀ j u, (enc x)[j]? = some u → w.cell? ⟨g, i * size + j, none⟩ = some u) ∧ (∀ j, w.frozen? ⟨g, j, none⟩ = false) ∧ F g ∧ g < w.heap.size := by
  have hlt : ∀ j, j < size → i * size + j < (l.flatMap enc).length := fun j hj => by
    have h1 := flat_at hsz hi hj
    have h2 : (enc x)[j]? = some ((enc x)[j]'(by rw [hsz x (List.mem_of_getElem? hi)]; exact hj)) := List.getElem?_eq_getElem _
    rw [h2] at h1
    exact (List.getElem?_eq_some_iff.1 h1).1
  obtain ⟨g, e1, _, _, hF, hg⟩ := row_at h (hlt 0 hpos)
  subst e1
  refine ⟨g, rfl, fun j u hj => ?_, fun j => ?_, hF, hg⟩
  · have hjl : j < size := by have := (List.getElem?_eq_some_iff.1 hj).1; rwa [hsz x (List.mem_of_getElem? hi)] at this
    obtain ⟨g', e2, hc, _⟩ := row_at h (hlt j hjl)
    injection e2 with e2; injection e2 with e2; subst e2
    rw [hc, ← List.getElem?_eq_getElem (hlt j hjl), flat_at hsz hi hjl]
    exact hj
  · rcases h.1.2 with ⟨h1, h2⟩ | ⟨g', cap, cur, hv, hb, hg', hn, hm, hs, ht⟩
    · cases h1
    · injection hv with hv; injection hv with hv; injection hv with hv; subst hv
      simp [World.frozen?, hg']

/-! ### A struct's cells, laid down -/
theorem fold2 (a b c d : Value) : Array.foldl (fun (cs : Array Value) (x : Value × Nat) => cs.setIfInBounds x.snd x.fst) #[a, b] (Value.agg #[c, d]).cells.zipIdx 0 2 = #[c, d] := rfl
theorem fold3 (a b c d e f : Value) : Array.foldl (fun (cs : Array Value) (x : Value × Nat) => cs.setIfInBounds x.snd x.fst) #[a, b, c] (Value.agg #[d, e, f]).cells.zipIdx 0 3 = #[d, e, f] := rfl
theorem fold4 (a b c d e f g h : Value) : Array.foldl (fun (cs : Array Value) (x : Value × Nat) => cs.setIfInBounds x.snd x.fst) #[a, b, c, d] (Value.agg #[e, f, g, h]).cells.zipIdx 0 4 = #[e, f, g, h] := rfl
theorem fold1 (A : Array Value) (v : Value) : Array.foldl (fun (cs : Array Value) (x : Value × Nat) => cs.setIfInBounds x.snd x.fst) A #[v].zipIdx 0 1 = A.setIfInBounds 0 v := rfl
theorem fold1k (A : Array Value) (k : Nat) (v : Value) : Array.foldl (fun (cs : Array Value) (x : Value × Nat) => cs.setIfInBounds (k + x.snd) x.fst) A #[v].zipIdx 0 1 = A.setIfInBounds k v := rfl
section
variable (a : Option Addr) (n c : Nat) (k : IntKind) (x : Int) (s : ByteArray) (b : Bool) (m : Option Nat)
theorem cells_slice : (Value.slice a n c).cells = #[.slice a n c] := rfl
theorem cells_int : (Value.int k x).cells = #[.int k x] := rfl
theorem cells_string : (Value.string s).cells = #[.string s] := rfl
theorem cells_bool : (Value.bool b).cells = #[.bool b] := rfl
theorem cells_map : (Value.map m).cells = #[.map m] := rfl
theorem cells_pointer : (Value.pointer a).cells = #[.pointer a] := rfl
theorem fold1_string (z : Value) : Array.foldl (fun (cs : Array Value) (x : Value × Nat) => cs.setIfInBounds x.snd x.fst) #[z] (Value.string s).cells.zipIdx 0 1 = #[(Value.string s)] := rfl
theorem fold1_int (z : Value) : Array.foldl (fun (cs : Array Value) (x : Value × Nat) => cs.setIfInBounds x.snd x.fst) #[z] (Value.int k x).cells.zipIdx 0 1 = #[(Value.int k x)] := rfl
theorem fold1_slice (z : Value) : Array.foldl (fun (cs : Array Value) (x : Value × Nat) => cs.setIfInBounds x.snd x.fst) #[z] (Value.slice a n c).cells.zipIdx 0 1 = #[(Value.slice a n c)] := rfl
theorem fold1_bool (z : Value) : Array.foldl (fun (cs : Array Value) (x : Value × Nat) => cs.setIfInBounds x.snd x.fst) #[z] (Value.bool b).cells.zipIdx 0 1 = #[(Value.bool b)] := rfl
end
attribute [go_sem] fold1_string fold1_int fold1_slice fold1_bool
attribute [go_sem] fold1 fold1k cells_slice cells_int cells_string cells_bool cells_map cells_pointer
attribute [go_sem] fold2 fold3 fold4
end Go.Px

/-
  Texts that grow, in pieces.
-/
namespace Go.Px
open Go.RowKit

/-- A text. -/
abbrev Txt := List UInt8
def BA (l : Txt) : ByteArray := ⟨l.toArray⟩
def tx (s : ByteArray) : Txt := s.data.toList
theorem BA_tx (s : ByteArray) : BA (tx s) = s := by cases s; simp [BA, tx]
theorem tx_BA (l : Txt) : tx (BA l) = l := by simp [BA, tx]
theorem tx_len (s : ByteArray) : (tx s).length = s.size := by cases s; rfl
theorem BA_size (l : Txt) : (BA l).size = l.length := by simp [BA, ByteArray.size]
theorem tx_append (s t : ByteArray) : tx (s ++ t) = tx s ++ tx t := by unfold tx; rw [ByteArray.data_append]; exact Array.toList_append
theorem BA_append (a b : Txt) : BA a ++ BA b = BA (a ++ b) := by
  rw [← BA_tx (BA a ++ BA b), tx_append, tx_BA, tx_BA]
theorem BA_inj {a b : Txt} (h : BA a = BA b) : a = b := by rw [← tx_BA a, ← tx_BA b, h]
theorem tx_inj {a b : ByteArray} (h : tx a = tx b) : a = b := by rw [← BA_tx a, ← BA_tx b, h]
def byC (l : Txt) : List Value := l.map fun b => .int .u8 b.toNat
theorem byC_len (l : Txt) : (byC l).length = l.length := by simp [byC]
theorem byC_append (a b : Txt) : byC (a ++ b) = byC a ++ byC b := by simp [byC]
theorem strCells_byC (s : ByteArray) : Lib.strCells s = byC (tx s) := rfl

/-- Cells that are not frozen are laid down, one behind the other. -/
theorem run_storeCells_free (P : Program) (g : Nat) (t : TypeId) (fz : Nat × Nat) : ∀ (vs : List Value) (o : Nat) (i : Nat) (cur : Array Value) (w : World), w.heap[g]? = some (.cells cur t fz) → (fz.2 ≤ o + i ∨ cur.size ≤ fz.1) → o + i + vs.length ≤ cur.size → (∀ v ∈ vs, v.oneCell' = true) →
    (storeCells ⟨g, o, none⟩ vs i).run P w = .ok () (w.setRow g (cur.toList.take (o + i) ++ vs ++ cur.toList.drop (o + i + vs.length)).toArray)
  | [], o, i, cur, w, hg, _, _, _ => by
    simp only [storeCells, List.append_nil, List.length_nil, Nat.add_zero, List.take_append_drop, Array.toArray_toList]
    rw [setRow_self w g cur t fz hg]
    rfl
  | v :: rest, o, i, cur, w, hg, hfz, hl, h1 => by
    have hi : o + i < cur.size := by simp at hl; omega
    have hadd : (⟨g, o, none⟩ : Addr).add i = ⟨g, o + i, none⟩ := by unfold Addr.add; split <;> simp_all
    have hcell : w.cell? ⟨g, o + i, none⟩ = some cur[o + i] := by simp [World.cell?, hg, hi]
    have hfro : w.frozen? ⟨g, o + i, none⟩ = false := by
      obtain ⟨lo, hi2⟩ := fz
      simp only [World.frozen?, hg, Bool.and_eq_false_iff, decide_eq_false_iff_not]
      simp only at hfz
      rcases hfz with h | h
      · right; omega
      · left; omega
    have hst : (store ((⟨g, o, none⟩ : Addr).add i) v).run P w = .ok () (w.setRow g (cur.setIfInBounds (o + i) v)) := by
      rw [hadd, run_store P w _ v _ (h1 v (by simp)), hcell]
      simp [hfro, setCell_eq_setRow w g (o + i) cur t fz v hg]
    have ih := run_storeCells_free P g t fz rest o (i + 1) (cur.setIfInBounds (o + i) v) (w.setRow g (cur.setIfInBounds (o + i) v)) (setRow_heap w g cur _ t _ hg) (by simp; omega) (by simp at hl ⊢; omega) (fun x hx => h1 x (by simp [hx]))
    simp only [storeCells, Sem.run_bind, hst, Result.andThen_ok, ih, setRow_setRow]
    congr 3
    have e := list_seg_step cur.toList (o + i) v rest (by simp at hl ⊢; omega)
    simpa [Array.toList_setIfInBounds, Nat.add_assoc] using e

/-- A text that is owned: it may grow; its head may be frozen (m: a mark behind its last cell). -/
def txtM (m : Bool) (e : TypeId) (a : Option Addr) (n c : Nat) (l : Txt) : Ch where
  ok w F := n = l.length ∧ ((a = none ∧ n = 0 ∧ c = 0) ∨ ∃ g cur fz, a = some ⟨g, 0, none⟩ ∧ F g ∧ w.heap[g]? = some (.cells cur e fz) ∧ (fz.2 ≤ n ∨ (m = true ∧ cur.size ≤ fz.1)) ∧ n ≤ c ∧ c ≤ maxLen ∧ cur.size = c ∧ cur.toList.take n = byC l)
  keep h hc hX hF := by
    refine ⟨h.1, h.2.imp id ?_⟩
    rintro ⟨g, cur, fz, ha, hg, hw, r⟩
    have hlt := (Array.getElem?_eq_some_iff.1 hw).1
    exact ⟨g, cur, fz, ha, hF g hlt hg, (hc.block g hlt (hX g hlt hg)).trans hw, r⟩
abbrev txtC := txtM false
theorem txtM_up {m : Bool} {e : TypeId} {a : Option Addr} {n c : Nat} {l : Txt} {w : World} {F : Nat → Prop} (h : (txtM m e a n c l).ok w F) : (txtM true e a n c l).ok w F := by
  refine ⟨h.1, h.2.imp id ?_⟩
  rintro ⟨g, cur, fz, ha, hg, hw, hf, r⟩
  exact ⟨g, cur, fz, ha, hg, hw, hf.imp id fun h => ⟨rfl, h.2⟩, r⟩

theorem txtC_nil (w : World) (m : Bool) (e : TypeId) (F : Nat → Prop) : (txtM m e none 0 0 []).ok w F := ⟨rfl, Or.inl ⟨rfl, rfl, rfl⟩⟩

section
variable {G : Nat → Prop} {W w w' : World} {L L' : List Ch} {m : Bool}
theorem St.nilTxt (h : St G W w L) (e : TypeId) : St G W w (L ++ [txtC e none 0 0 []]) := h.push (txtC_nil _ _ _ _)
theorem St.nilTxtM (h : St G W w L) (m : Bool) (e : TypeId) : St G W w (L ++ [txtM m e none 0 0 []]) := h.push (txtC_nil _ _ _ _)

theorem txt_size {e : TypeId} {a : Option Addr} {n c : Nat} {l : Txt} {F : Nat → Prop} (h : (txtM m e a n c l).ok w F) : n = l.length ∧ n ≤ c ∧ c ≤ maxLen ∧ (a = none → n = 0 ∧ c = 0) := by
  refine ⟨h.1, ?_⟩
  rcases h.2 with ⟨ha, h1, h2⟩ | ⟨g, cur, fz, ha, _, _, _, hn, hm, _, _⟩
  · subst h2; exact ⟨by omega, by simp [maxLen], fun _ => ⟨h1, rfl⟩⟩
  · exact ⟨hn, hm, fun h0 => by rw [ha] at h0; cases h0⟩
theorem St.txtSize (h : St G W w L) (k : Nat) {e : TypeId} {a : Option Addr} {n c : Nat} {l : Txt} (hk : L[k]? = some (txtM m e a n c l)) : n = l.length ∧ n ≤ c ∧ c ≤ maxLen ∧ (a = none → n = 0 ∧ c = 0) := by
  obtain ⟨F, ho, _⟩ := h.get hk
  exact txt_size ho

theorem txt_info {P : Program} {e : TypeId} (hi : (P.info? e).map (fun i => (i.zero, i.size, i.bytes)) = some (some (.int .u8 0), 1, 1)) : ∃ i, P.info? e = some i ∧ i.zero = some (.int .u8 0) ∧ i.size = 1 ∧ i.bytes = 1 := by
  cases hq : P.info? e with
  | none => rw [hq] at hi; cases hi
  | some i => rw [hq] at hi; simp at hi; exact ⟨i, rfl, hi.1, hi.2.1, hi.2.2⟩

theorem txt_cells {e : TypeId} {g n : Nat} {l : Txt} {cur : Array Value} {fz : Nat × Nat} (hw : w.heap[g]? = some (.cells cur e fz)) (ht : cur.toList.take n = byC l) : ∀ j u, (byC l)[j]? = some u → w.cell? ((⟨g, 0, none⟩ : Addr).add j) = some u := by
  intro j u hu
  rw [Addr.add_lit, Nat.zero_add]
  simp only [World.cell?, hw]
  rw [← ht, List.getElem?_take] at hu
  split at hu
  · simpa using hu
  · cases hu

/-- What an append makes of it: a new row. -/
theorem txt_new {k : Nat} {e : TypeId} {a : Option Addr} {n c : Nat} {l new : Txt} {F : Nat → Prop} (ho : (txtM m e a n c l).ok w F) (hs : ∀ (w' : World) (c : Ch), Chg F w w' → c.ok w' (fun i => F i ∨ (w.heap.size ≤ i ∧ i < w'.heap.size)) → St G W w' (L.set k c)) {v' : Value}
    (hown : w'.ownsRow w.heap.size e 1 v' (l.length + new.length) (byC l ++ byC new)) (hgr : w.grownBy w' none) : ∃ a' cap, v' = .slice a' (l.length + new.length) cap ∧ St G W w' (L.set k (txtM m e a' (l.length + new.length) cap (l ++ new))) := by
  have hc : Chg F w w' := ⟨hgr.os, hgr.tape, hgr.output, hgr.size, fun j hj hF => hgr.block j hj (by simp)⟩
  rcases hown.2 with ⟨h1, h2⟩ | ⟨g, cap, cur, hv, hb, hg, hn, hm, hs1, ht⟩
  · have : new = [] ∧ l = [] := ⟨List.length_eq_zero_iff.1 (by omega), List.length_eq_zero_iff.1 (by omega)⟩
    obtain ⟨rfl, rfl⟩ := this
    exact ⟨none, 0, by rw [h1]; rfl, hs w' _ hc ⟨by simp, Or.inl ⟨rfl, rfl, rfl⟩⟩⟩
  · have hlt := (Array.getElem?_eq_some_iff.1 hg).1
    exact ⟨_, cap, hv, hs w' _ hc ⟨by simp, Or.inr ⟨g, cur, (0, 0), rfl, Or.inr ⟨hb, hlt⟩, hg, Or.inl (Nat.zero_le _), hn, hm, by simpa using hs1, by rw [byC_append]; simpa using ht⟩⟩⟩

/-- .. the same row. -/
theorem txt_room {k : Nat} {e : TypeId} {g c : Nat} {l new : Txt} {F : Nat → Prop} {cur : Array Value} {fz : Nat × Nat} (hs : ∀ (w' : World) (c : Ch), Chg F w w' → c.ok w' (fun i => F i ∨ (w.heap.size ≤ i ∧ i < w'.heap.size)) → St G W w' (L.set k c))
    (hF : F g) (hw : w.heap[g]? = some (.cells cur e fz)) (hfz : fz.2 ≤ l.length ∨ (m = true ∧ cur.size ≤ fz.1)) (hroom : l.length + new.length ≤ c) (hc : c ≤ maxLen) (hcs : cur.size = c) (ht : cur.toList.take l.length = byC l) :
    St G W (w.setRow g (cur.toList.take l.length ++ byC new ++ cur.toList.drop (l.length + new.length)).toArray) (L.set k (txtM m e (some ⟨g, 0, none⟩) (l.length + new.length) c (l ++ new))) := by
  have hlt := (Array.getElem?_eq_some_iff.1 hw).1
  have hsz : (cur.toList.take l.length ++ byC new ++ cur.toList.drop (l.length + new.length)).toArray.size = cur.size := by
    simp only [List.size_toArray, List.length_append, List.length_take, List.length_drop, Array.length_toList, byC_len]
    omega
  refine hs _ _ ⟨rfl, rfl, rfl, by simp, fun j hj hn => setRow_other w g j _ fun e => hn (by rw [e]; exact hF)⟩ ⟨by simp, Or.inr ⟨g, _, fz, rfl, Or.inl hF, setRow_heap w g cur _ e _ hw, ?_, hroom, hc, by rw [hsz, hcs], ?_⟩⟩
  · rw [hsz]; exact hfz.imp (fun h => by omega) id
  · rw [ht, byC_append]
    have : l.length + new.length = (byC l ++ byC new).length := by simp [byC_len]
    rw [this]
    exact List.take_left

/-- append, of a string. -/
theorem St.txtStr {P : Program} {X : Pan} {K : Value → World → Prop} (h : St G W w L) (k : Nat) {t u ty e : TypeId} {a : Option Addr} {n c : Nat} {l : Txt} (hk : L[k]? = some (txtM m e a n c l))
    (ht : P.underlying t = some (.slice e)) (hu : P.underlying u = some .string) (hi : (P.info? e).map (fun i => (i.zero, i.size, i.bytes)) = some (some (.int .u8 0), 1, 1)) (s : ByteArray)
    (hb : l.length + s.size ≤ maxBytes)
    (hK : ∀ a' cap w', St G W w' (L.set k (txtM m e a' (l.length + s.size) cap (l ++ tx s))) → K (.slice a' (l.length + s.size) cap) w') :
    RES X ((Builtin.append_ #[t, u] ty #[.slice a n c, .string s]).run P w) K := by
  obtain ⟨i, hi, hz, hs1, hb1⟩ := txt_info hi
  obtain ⟨F, ho, hF, hs⟩ := h.opn hk
  have hn := ho.1
  have hlen : (tx s).length = s.size := tx_len s
  have hm : l.length + s.size ≤ maxLen := by unfold maxBytes at hb; unfold maxLen; omega
  have hbb : l.length + s.size ≤ 140737488355328 := hb
  subst hn
  have fin : ∀ v' w', ((Builtin.append_ #[t, u] ty #[.slice a l.length c, .string s]).run P w = .ok v' w') → w'.ownsRow w.heap.size e 1 v' (l.length + s.size) (byC l ++ byC (tx s)) → w.grownBy w' none →
      RES X ((Builtin.append_ #[t, u] ty #[.slice a l.length c, .string s]).run P w) K := by
    intro v' w' hrun hown hgr
    rw [hrun, RES_ok]
    rw [← hlen] at hown
    obtain ⟨a', cap, rfl, hst⟩ := txt_new ho hs hown hgr
    rw [hlen] at hst ⊢
    exact hK a' cap w' hst
  rcases ho.2 with ⟨rfl, h0, rfl⟩ | ⟨g, cur, fz, rfl, hFg, hg, hfz, hnc, hcm, hcs, htake⟩
  · have hl0 : l = [] := List.length_eq_zero_iff.1 h0
    subst hl0
    obtain ⟨v', w', h1, h2, h3, h4⟩ := Lib.run_append_own_string (P := P) w w.heap.size t u ty e i ht hu hi hz hs1 hb1 (.slice none 0 0) 0 [] ⟨by simp, .inl ⟨rfl, rfl⟩⟩ s (by simpa using hm) (by simpa using hbb) (Nat.le_refl _)
    exact fin v' w' h1 h2 h3
  · have hxl : (byC l).length = l.length := byC_len l
    have hl2 : (byC l ++ Lib.strCells s).length = (l.length + s.size) * 1 := by rw [List.length_append, hxl, Lib.strCells_length, Nat.mul_one]
    by_cases hroom : l.length + s.size ≤ c
    · have hf := Lib.run_firstCells_string (P := P) w 1 s
      have hst := run_storeCells_free P g e fz (Lib.strCells s) l.length 0 cur w hg (by rcases hfz with h | h; exact Or.inl h; exact Or.inr h.2) (by simp [Lib.strCells_length]; omega) (Lib.strCells_oneCell s)
      simp only [Nat.add_zero, Lib.strCells_length] at hst
      have hr : (Builtin.append_ #[t, u] ty #[.slice (some ⟨g, 0, none⟩) l.length c, .string s]).run P w = .ok (.slice (some ⟨g, 0, none⟩) (l.length + s.size) c) (w.setRow g (cur.toList.take l.length ++ Lib.strCells s ++ cur.toList.drop (l.length + s.size)).toArray) := by
        simp [Builtin.append_, run_underlying ht, run_underlying hu, sizeOf, typeInfo, hi, hs1, Builtin.lenOf, hroom, hf, Addr.add_lit, hst]
      rw [hr, RES_ok]
      refine hK _ _ _ ?_
      have := txt_room (m := m) (k := k) (new := tx s) hs hFg hg hfz (by rw [hlen]; exact hroom) hcm hcs htake
      rw [hlen] at this
      exact this
    · have hr := Lib.run_append_grow_string (P := P) w t u ty e i (.int .u8 0) ht hu hi hz ⟨g, 0, none⟩ l.length c (byC l) (by rw [hs1]; simpa using hxl) (txt_cells hg htake) s (by omega) (by unfold maxLen at hm; omega) (by rw [hb1]; exact growslice_fits (by omega) (by omega))
      have hge := grownCap_ge w (l.length + s.size) c e
      have hcm2 : grownCap w (l.length + s.size) c e ≤ maxLen := grownCap_le_maxLen w (l.length + s.size) c e hm
      refine fin _ _ hr ⟨hl2, .inr ⟨w.heap.size, _, _, rfl, Nat.le_refl _, heap_alloc_new w.drew _, hge, hcm2, ?_, ?_⟩⟩ ⟨rfl, rfl, rfl, by simp, fun k hk _ => Go.heap_alloc_old w.drew _ hk⟩
      · have hz1 : (Value.int IntKind.u8 0).cells.size = 1 := rfl
        simp only [Array.size_append, List.size_toArray, size_zeroCells, hz1, hxl, Lib.strCells_length]
        omega
      · simp only [Array.toList_append, List.append_assoc]
        rw [← List.append_assoc, ← strCells_byC, ← hl2]
        exact List.take_left

/-- append, of a byte that was just laid down. -/
theorem St.txtByte {P : Program} {X : Pan} {K : Value → World → Prop} (h : St G W w L) (k : Nat) {t ty e : TypeId} {a : Option Addr} {n c : Nat} {l : Txt} (hk : L[k]? = some (txtM m e a n c l))
    (ht : P.underlying t = some (.slice e)) (hi : (P.info? e).map (fun i => (i.zero, i.size, i.bytes)) = some (some (.int .u8 0), 1, 1)) (b : UInt8) {c1 : Nat} {x : Int} (hx : x = b.toNat)
    (hb : l.length + 1 ≤ maxBytes)
    (hK : ∀ a' cap w', St G W w' (L.set k (txtM m e a' (l.length + 1) cap (l ++ [b]))) → K (.slice a' (l.length + 1) cap) w') :
    RES X ((Builtin.append_ #[t, t] ty #[.slice a n c, .slice (some ⟨w.heap.size, 0, none⟩) 1 c1]).run P (w.alloc (.cells #[.int .u8 x] e))) K := by
  obtain ⟨i, hi, hz, hs1, hb1⟩ := txt_info hi
  have hc1 : Chg noB w (w.alloc (.cells #[.int .u8 x] e)) := (Chg.refl _ _).alloc _
  have hnews : ∀ j u, [Value.int .u8 x][j]? = some u → (w.alloc (.cells #[.int .u8 x] e)).cell? ((⟨w.heap.size, 0, none⟩ : Addr).add j) = some u := alloc_cells w [.int .u8 x] e rfl
  have h := h.old hc1
  generalize hw1 : w.alloc (.cells #[.int .u8 x] e) = w1 at h hnews ⊢
  generalize w.heap.size = q at hnews ⊢
  obtain ⟨F, ho, hF, hs⟩ := h.opn hk
  have hn := ho.1
  have hm : l.length + 1 ≤ maxLen := by unfold maxBytes at hb; unfold maxLen; omega
  have hbb : l.length + 1 ≤ 140737488355328 := hb
  subst hn
  have hnew : [Value.int .u8 x] = byC [b] := by simp [byC, hx]
  have fin : ∀ v' w', ((Builtin.append_ #[t, t] ty #[.slice a l.length c, .slice (some ⟨q, 0, none⟩) 1 c1]).run P w1 = .ok v' w') → w'.ownsRow w1.heap.size e 1 v' (l.length + 1) (byC l ++ byC [b]) → w1.grownBy w' none →
      RES X ((Builtin.append_ #[t, t] ty #[.slice a l.length c, .slice (some ⟨q, 0, none⟩) 1 c1]).run P w1) K := by
    intro v' w' hrun hown hgr
    rw [hrun, RES_ok]
    obtain ⟨a', cap, rfl, hst⟩ := txt_new (new := [b]) ho hs hown hgr
    exact hK a' cap w' hst
  have h1c : ∀ u ∈ [Value.int .u8 x], u.oneCell' = true := by intro u hu; simp at hu; subst hu; rfl
  rcases ho.2 with ⟨rfl, h0, rfl⟩ | ⟨g, cur, fz, rfl, hFg, hg, hfz, hnc, hcm, hcs, htake⟩
  · have hl0 : l = [] := List.length_eq_zero_iff.1 h0
    subst hl0
    obtain ⟨v', w', r1, r2, r3, r4⟩ := run_append_own (P := P) w1 w1.heap.size t ty e i (.int .u8 0) 1 1 ht hi hz hs1 hb1 rfl (by omega) (.slice none 0 0) 0 [] ⟨by simp, .inl ⟨rfl, rfl⟩⟩ ⟨q, 0, none⟩ 1 c1 [.int .u8 x] rfl hnews h1c (by simpa using hm) (by omega) (Nat.le_refl _)
    rw [hnew] at r2
    exact fin v' w' r1 r2 r3
  · have hxl : (byC l).length = l.length := byC_len l
    have hl2 : (byC l ++ [Value.int .u8 x]).length = (l.length + 1) * 1 := by rw [List.length_append, hxl]; simp
    by_cases hroom : l.length + 1 ≤ c
    · have hf := run_firstCells_some (P := P) w1 i.size 1 ⟨q, 0, none⟩ 1 c1 [Value.int .u8 x] (by rw [hs1]; rfl) hnews
      rw [hs1] at hf
      have hst := run_storeCells_free P g e fz [.int .u8 x] l.length 0 cur w1 hg (by rcases hfz with h | h; exact Or.inl h; exact Or.inr h.2) (by simp; omega) h1c
      simp only [Nat.add_zero, List.length_cons, List.length_nil] at hst
      have hr : (Builtin.append_ #[t, t] ty #[.slice (some ⟨g, 0, none⟩) l.length c, .slice (some ⟨q, 0, none⟩) 1 c1]).run P w1 = .ok (.slice (some ⟨g, 0, none⟩) (l.length + 1) c) (w1.setRow g (cur.toList.take l.length ++ [Value.int .u8 x] ++ cur.toList.drop (l.length + (0 + 1))).toArray) := by
        simp [Builtin.append_, run_underlying ht, sizeOf, typeInfo, hi, hs1, Builtin.lenOf, hroom, hf, Addr.add_lit] at hst ⊢
        rw [hst]
        simp
      rw [hr, RES_ok]
      refine hK _ _ _ ?_
      have := txt_room (m := m) (k := k) (new := [b]) hs hFg hg hfz hroom hcm hcs htake
      rw [hnew]
      exact this
    · have hr := run_append_grow (P := P) w1 t ty e i (.int .u8 0) ht hi hz ⟨g, 0, none⟩ l.length c (byC l) (by rw [hs1]; simpa using hxl) (txt_cells hg htake) ⟨q, 0, none⟩ 1 c1 [.int .u8 x] (by rw [hs1]; rfl) hnews (by omega) (by unfold maxLen at hm; omega) (by rw [hb1]; exact growslice_fits (by omega) (by omega))
      have hge := grownCap_ge w1 (l.length + 1) c e
      have hcm2 : grownCap w1 (l.length + 1) c e ≤ maxLen := grownCap_le_maxLen w1 (l.length + 1) c e hm
      refine fin _ _ hr ⟨by rw [← hnew]; exact hl2, .inr ⟨w1.heap.size, _, _, rfl, Nat.le_refl _, heap_alloc_new w1.drew _, hge, hcm2, ?_, ?_⟩⟩ ⟨rfl, rfl, rfl, by simp, fun k hk _ => Go.heap_alloc_old w1.drew _ hk⟩
      · have hz1 : (Value.int IntKind.u8 0).cells.size = 1 := rfl
        simp only [Array.size_append, List.size_toArray, size_zeroCells, hz1, hxl, List.length_cons, List.length_nil]
        omega
      · simp only [Array.toList_append, List.append_assoc]
        rw [← List.append_assoc, ← hnew, ← hl2]
        exact List.take_left

/-- A text's cells. -/
theorem St.txtCell (h : St G W w L) (k : Nat) {e : TypeId} {a : Option Addr} {n c : Nat} {l : Txt} (hk : L[k]? = some (txtM m e a n c l)) {j : Nat} (hj : j < l.length) : ∃ g, a = some ⟨g, 0, none⟩ ∧ w.cell? ⟨g, j, none⟩ = some (.int .u8 l[j].toNat) := by
  obtain ⟨F, ho, _⟩ := h.get hk
  rcases ho.2 with ⟨rfl, h0, rfl⟩ | ⟨g, cur, fz, rfl, hFg, hg, hfz, hnc, hcm, hcs, htake⟩
  · have := ho.1; omega
  · have := txt_cells hg htake j (.int .u8 l[j].toNat) (by simp [byC, hj])
    refine ⟨g, rfl, ?_⟩
    rwa [Addr.add_lit, Nat.zero_add] at this

/-- A text as a string. -/
theorem St.txtConv {P : Program} (h : St G W w L) (k : Nat) {t u e : TypeId} {a : Option Addr} {n c : Nat} {l : Txt} (hk : L[k]? = some (txtM m e a n c l)) (ht : P.underlying t = some (.slice e)) (he : P.underlying e = some (.int .u8)) (hu : P.underlying u = some .string) :
    (convert t u (.slice a n c)).run P w = .ok (.string (BA l)) w := by
  obtain ⟨F, ho, _⟩ := h.get hk
  have hn := ho.1
  subst hn
  rcases ho.2 with ⟨rfl, h0, rfl⟩ | ⟨g, cur, fz, rfl, hFg, hg, hfz, hnc, hcm, hcs, htake⟩
  · have : l = [] := List.length_eq_zero_iff.1 h0
    subst this
    rw [run_convert_bytes_string w t u e none _ _ ht he hu]
    rfl
  · refine run_convert_bytes_back w t u e ⟨g, 0, none⟩ c l ht he hu fun j hj => ?_
    exact txt_cells hg htake j _ (by simp [byC, hj])

/-- A string as a text. -/
theorem St.txtOf {P : Program} (h : St G W w L) {t u e : TypeId} (s : ByteArray) (ht : P.underlying t = some .string) (hu : P.underlying u = some (.slice e)) (he : P.underlying e = some (.int .u8)) (hs : s.size ≤ maxLen) :
    ∃ a c w', (convert t u (.string s)).run P w = .ok (.slice a s.size c) w' ∧ St G W w' (L ++ [txtM true e a s.size c (tx s)]) := by
  refine ⟨_, _, _, run_bytes_of_string w t u e s ht hu he, ?_⟩
  have hge := grownCap_ge w s.size 0 e
  have hcm := grownCap_le_maxLen w s.size 0 e hs
  generalize grownCap w s.size 0 e = cap at hge hcm ⊢
  have hds : s.data.size = s.size := rfl
  have hsz : (bytesRow s cap).size = cap := by
    simp [bytesRow]
    omega
  refine h.seq ⟨?_, fun i => if i = w.heap.size then 1 else 0, fun i hi => ?_, fun k d hk => ?_⟩
  · exact ⟨rfl, rfl, rfl, by simp, fun k hk _ => Go.heap_alloc_old w.drew _ hk⟩
  · by_cases e : i = w.heap.size
    · subst e; exact ⟨fun h => absurd h (Nat.lt_irrefl _), by simp⟩
    · dsimp only at hi; rw [if_neg e] at hi; exact absurd rfl hi
  · match k, hk with
    | 0, hk =>
      injection hk with hk; subst hk
      refine ⟨(tx_len s).symm, Or.inr ⟨w.heap.size, _, _, rfl, by simp, World.alloc_heap_new w.drew _, Or.inr ⟨rfl, Nat.le_refl _⟩, hge, hcm, hsz, ?_⟩⟩
      have : s.size = (s.data.map fun b => Value.int .u8 b.toNat).toList.length := by simp [hds]
      unfold bytesRow
      rw [Array.toList_append, this, List.take_left]
      simp [byC, tx]
    | k + 1, hk => simp at hk
end
end Go.Px

/-
  Calls that are given a piece and a list that was laid down just ahead.
-/
namespace Go.Px
open Go.RowKit
/-- What a call did to a piece. -/
def DoneC (F : Nat → Prop) (w : World) (c : Ch) (w' : World) : Prop := Chg F w w' ∧ c.ok w' (fun i => F i ∨ (w.heap.size ≤ i ∧ i < w'.heap.size))
theorem DoneC.of_st {F : Nat → Prop} {w w' : World} {L : List Ch} {c : Ch} (h : St F w w' L) (hc : ∀ F', allOk L w' F' → c.ok w' F') : DoneC F w c w' := ⟨h.chg, hc _ h.leave⟩
open Classical in
/-- One piece alone. -/
theorem St.one {F : Nat → Prop} {w : World} {c : Ch} (h : c.ok w F) : St F w w [c] := St.enter ⟨fun i => if F i ∧ i < w.heap.size then 1 else 0, fun i hi => by
    by_cases e : F i ∧ i < w.heap.size
    · exact e
    · dsimp only at hi; rw [if_neg e] at hi; exact absurd rfl hi, fun k d hk => by
    match k, hk with
    | 0, hk => injection hk with hk; subst hk; exact c.keep h (Chg.refl noB _) (fun _ _ _ => id) fun i h1 h2 => by simp [h1, h2]
    | k + 1, hk => simp at hk⟩
theorem St.oneDone {F : Nat → Prop} {w w' : World} {c : Ch} {L : List Ch} (h : St F w w' (c :: L)) : DoneC F w c w' := by
  obtain ⟨T, hT, hk⟩ := h.leave
  exact ⟨h.chg, c.keep (hk 0 _ rfl) (Chg.refl noB _) (fun _ _ _ => id) fun i _ e => (hT i (by omega)).1⟩
section
variable {G : Nat → Prop} {W w w1 : World} {L : List Ch}
/-- A call that is given a piece. -/
theorem CALL_piece {P : Program} {X : Pan} {f : FuncId} {args : Array Value} {K : Value → World → Prop} (h : St G W w L) (k : Nat) {c0 : Ch} (hk : L[k]? = some c0) {S : Value → World → (Nat → Prop) → Prop}
    (hct : ∀ F, c0.ok w F → (∀ i, F i → i < w.heap.size ∧ (i < W.heap.size → G i)) → Ct P f args w fun v w' => S v w' F) (hK : ∀ F v w', S v w' F → (∀ c, DoneC F w c w' → St G W w' (L.set k c)) → K v w') : CALL P X f args w K := by
  obtain ⟨F, ho, hF, hs⟩ := h.opn hk
  exact CALL_of (hct F ho hF) fun v w' hS => hK F v w' hS fun c hc => hs w' c hc.1 hc.2
/-- .. and there are new blocks that the piece has no part of. -/
theorem CALL_new {P : Program} {X : Pan} {f : FuncId} {args : Array Value} {K : Value → World → Prop} (h : St G W w1 L) (hn : Chg noB w1 w) (k : Nat) {c0 : Ch} (hk : L[k]? = some c0) {S : Value → World → (Nat → Prop) → Prop}
    (hct : ∀ F, c0.ok w F → (∀ i, F i → i < w1.heap.size ∧ (i < W.heap.size → G i)) → Ct P f args w fun v w' => S v w' F) (hK : ∀ F v w', S v w' F → (∀ c, DoneC F w c w' → St G W w' (L.set k c)) → K v w') : CALL P X f args w K := by
  obtain ⟨F, ho, hF, hs⟩ := h.opn hk
  refine CALL_of (hct F (c0.keep ho hn (fun _ _ _ => id) fun _ _ e => e) hF) fun v w' hS => hK F v w' hS fun c hc => hs w' c ((hn.mono fun i _ (e : noB i) => e.elim).trans' hc.1 fun _ _ e => e) (c.keep (X := noB) hc.2 (Chg.refl _ _) (fun _ _ _ => id) fun i hi e => ?_)
  rcases e with e | e
  · exact Or.inl e
  · exact Or.inr ⟨by have := hn.size; omega, e.2⟩
end
/-- A list in a block. -/
theorem lit_at1 {α : Type} {r : Rep α} {enc : α → List Value} {w : World} {q : Nat} {e : TypeId} {fz : Nat × Nat} {l : List α} {cs : Array Value} (hq : w.heap[q]? = some (.cells cs e fz)) (hcs : cs.toList = l.flatMap enc) (hr : ∀ x ∈ l, r.ok w (q + 1) (enc x) x) (hl : l.length ≤ maxLen) :
    (rSlice r).at1 w (q + 1) (.slice (some ⟨q, 0, none⟩) l.length l.length) l := by
  refine ⟨_, _, rfl, Nat.le_refl _, hl, trivial, fun _ => ⟨q, 0, rfl, by omega, fun i x hi => ⟨enc x, hr x (List.mem_of_getElem? hi), fun j u hj => ?_⟩⟩⟩
  have hs : ∀ x ∈ l, (enc x).length = r.size := fun x hx => r.len (hr x hx)
  have hj2 : j < r.size := by rw [← hs x (List.mem_of_getElem? hi)]; exact (List.getElem?_eq_some_iff.1 hj).1
  have h1 := flat_at hs hi hj2
  rw [hj, ← hcs] at h1
  simp only [World.cell?, hq, Nat.zero_add]
  simpa using h1
theorem lit_str {w w1 : World} {X : Nat → Prop} {s : ByteArray} {e : TypeId} (hX : ∀ i, X i → i < w.heap.size) (hs : s.size ≤ maxLen) (hc : Chg X (w.alloc (.cells #[.string s] e)) w1) : (rSlice rStr).at1 w1 (w.heap.size + 1) (.slice (some ⟨w.heap.size, 0, none⟩) 1 1) [s] := by
  refine lit_at1 (l := [s]) (enc := fun s => [.string s]) ((hc.block _ (by simp) fun h => by have := hX _ h; omega).trans (World.alloc_heap_new w _)) rfl (fun x hx => ?_) (by simp [maxLen])
  simp at hx; subst hx; exact ⟨rfl, hs⟩
theorem lit_int {w w1 : World} {X : Nat → Prop} {s : Int} {e : TypeId} (hX : ∀ i, X i → i < w.heap.size) (hs : inI64 s) (hc : Chg X (w.alloc (.cells #[.int .i64 s] e)) w1) : (rSlice rInt).at1 w1 (w.heap.size + 1) (.slice (some ⟨w.heap.size, 0, none⟩) 1 1) [s] := by
  refine lit_at1 (l := [s]) (enc := fun s => [.int .i64 s]) ((hc.block _ (by simp) fun h => by have := hX _ h; omega).trans (World.alloc_heap_new w _)) rfl (fun x hx => ?_) (by simp [maxLen])
  simp at hx; subst hx; exact ⟨rfl, hs⟩

section
variable {G : Nat → Prop} {W w : World} {L : List Ch}
theorem flat_len' {α : Type} {enc : α → List Value} {size : Nat} : ∀ l : List α, (∀ x ∈ l, (enc x).length = size) → (l.flatMap enc).length = l.length * size
  | [], _ => by simp
  | x :: t, h => by rw [List.flatMap_cons, List.length_append, h x (by simp), flat_len' t fun y hy => h y (by simp [hy]), List.length_cons, Nat.succ_mul]; omega
/-- append, of all that a slice has. -/
theorem St.appendRd {α : Type} {r : Rep α} {enc : α → List Value} {P : Program} {X : Pan} {K : Value → World → Prop} (h : St G W w L) (k : Nat) {t ty e : TypeId} {z : Value} {bytes : Nat} {a0 : Option Addr} {n c : Nat} {xs : List Value} (hk : L[k]? = some (rowC e r.size a0 n c xs))
    (ht : P.underlying t = some (.slice e)) (hi : (P.info? e).map (fun i => (i.zero, i.size, i.bytes)) = some (some z, r.size, bytes)) (hzs : z.cells.size = r.size) (hsz : 0 < r.size)
    {A : Option Addr} {c1 B : Nat} {l : List α} (hr : (rSlice r).at1 w B (.slice A l.length c1) l) (henc : ∀ {ys x}, r.ok w B ys x → x ∈ l → ys = enc x) (hone : ∀ x ∈ l, ∀ u ∈ enc x, u.oneCell' = true) (hlen : ∀ x ∈ l, (enc x).length = r.size)
    (h63 : n + l.length ≤ maxLen) (hbytes : (n + l.length) * bytes ≤ maxBytes)
    (hK : ∀ a' cap w', St G W w' (L.set k (rowC e r.size a' (n + l.length) cap (xs ++ l.flatMap enc))) → K (.slice a' (n + l.length) cap) w') :
    RES X ((Builtin.append_ #[t, t] ty #[.slice a0 n c, .slice A l.length c1]).run P w) K := by
  cases A with
  | none =>
    have hl : l = [] := by
      obtain ⟨A', c', hv, h1, h2, h3, h4⟩ := hr
      rcases Nat.eq_zero_or_pos l.length with h0 | h0
      · exact List.eq_nil_of_length_eq_zero h0
      · obtain ⟨b, o, e, _⟩ := h4 h0
        injection hv with hv; injection hv with hA; rw [e] at hA; cases hA
    subst hl
    obtain ⟨i, hi', hz, hs1, hb1⟩ : ∃ i, P.info? e = some i ∧ i.zero = some z ∧ i.size = r.size ∧ i.bytes = bytes := by
      cases hq : P.info? e with
      | none => rw [hq] at hi; cases hi
      | some i => rw [hq] at hi; simp at hi; exact ⟨i, rfl, hi.1, hi.2.1, hi.2.2⟩
    obtain ⟨F, ho, _⟩ := h.get hk
    have hrun : (Builtin.append_ #[t, t] ty #[.slice a0 n c, .slice none 0 c1]).run P w = .ok (.slice a0 n c) w := by
      rcases ho.1.2 with ⟨h1, rfl⟩ | ⟨g, cap, cur, h1, _, _, hnc, _⟩
      · injection h1 with h1 h2 h3; subst h1 h3
        simp [Builtin.append_, run_underlying ht, sizeOf, typeInfo, hi', Builtin.lenOf, Builtin.firstCells]
      · injection h1 with h1 h2 h3; subst h1 h3
        simp [Builtin.append_, run_underlying ht, sizeOf, typeInfo, hi', Builtin.lenOf, Builtin.firstCells, hnc, storeCells]
    rw [List.length_nil, hrun, RES_ok]
    exact hK a0 c w (h.turn hk fun F hf => by simpa using hf)
  | some a =>
    refine h.appendN k hk ht hi hzs hsz (flat_len' l hlen) (fun j u hj => ?_) (fun u hu => ?_) h63 hbytes fun a' cap w' h' _ => hK a' cap w' h'
    · have hlen' := flat_len' l hlen
      have hjl : j < l.length * r.size := by rw [← hlen']; exact (List.getElem?_eq_some_iff.1 hj).1
      have hi2 : j / r.size < l.length := (Nat.div_lt_iff_lt_mul hsz).2 hjl
      have hm : j % r.size < r.size := Nat.mod_lt _ hsz
      have hdm : j / r.size * r.size + j % r.size = j := by rw [Nat.mul_comm]; exact Nat.div_add_mod j r.size
      obtain ⟨b', o', ys, hA, hb, hok, hc⟩ := slice_at hr hi2
      injection hA with hA; subst hA
      have hy := henc hok (List.getElem_mem hi2)
      have hf := flat_at hlen (List.getElem?_eq_getElem hi2) hm
      rw [hdm, hj] at hf
      have := hc (j % r.size) u (by rw [hy]; exact hf.symm)
      rw [Addr.add_lit, show o' + j = o' + (j / r.size * r.size + j % r.size) by omega]
      exact this
    · obtain ⟨x, hx, hu⟩ := List.mem_flatMap.1 hu
      exact hone x hx u hu
end
end Go.Px

