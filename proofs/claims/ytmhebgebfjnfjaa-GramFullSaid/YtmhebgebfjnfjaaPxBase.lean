/-
  A way of reading the model's code as a predicate over named slots: 'codeP', proved sound once against 'Code.wp'.
  No program is in sight here.
-/
import Derived.WalkKit
import Derived.Deep.Quiet
import Derived.RangeFuncFrom
import Derived.RangeFuncCalls
import Derived.TacticsIn
namespace Go.Px

/-! ### Slots -/
abbrev Env := Nat → Value

def upd (ρ : Env) : Option Tmp → Value → Env
  | none, _ => ρ
  | some d, v => fun n => cond (Nat.beq n d) v (ρ n)

def ev (ρ : Env) : Operand → Value
  | .tmp t => ρ t
  | .const v => v
  | .global g => .pointer (some ⟨g, 0, none⟩)
  | .func f => .func (.func f) #[] #[]

def envOf (l : List Value) : Env := fun n => l.getD n undef

/-- The frame 'a' of 'N' slots holds what 'ρ' says. -/
structure Rel (N : Nat) (a : Act) (ρ : Env) : Prop where
  size : a.tmps.size = N
  get : ∀ n, a.tmps.getD n undef = ρ n
  defers : a.defers = []

theorem Rel.eval {N : Nat} {a : Act} {ρ : Env} (h : Rel N a ρ) : a.eval = ev ρ := by
  funext x
  cases x with
  | tmp t => exact h.get t
  | _ => rfl

def dstIn (N : Nat) : Option Tmp → Bool
  | none => true
  | some d => Nat.blt d N

theorem Rel.put {N : Nat} {a : Act} {ρ : Env} (h : Rel N a ρ) {d : Option Tmp} (hd : dstIn N d = true) (v : Value) : Rel N (a.put d v) (upd ρ d v) := by
  cases d with
  | none => exact h
  | some d =>
    have hd' : d < N := by simpa [dstIn, Nat.blt_eq] using hd
    refine ⟨by simp [Act.put, h.size], fun n => ?_, h.defers⟩
    have hg := h.get n
    simp only [Act.put, upd]
    by_cases hn : n = d
    · subst hn
      simp [h.size, hd']
    · have : (Nat.beq n d) = false := by
        cases h : Nat.beq n d with
        | false => rfl
        | true => exact absurd (Nat.eq_of_beq_eq_true h) hn
      rw [this]
      simp only [cond_false]
      rw [← hg]
      simp only [Array.getD_eq_getD_getElem?]
      rw [Array.getElem?_setIfInBounds_ne (by omega)]

/-! ### Operations. ('Tok': what stands under it is not gone into by simp.) -/
def Tok {α : Sort _} (_ : α) : Type := Unit
def tok {α : Sort _} (a : α) : Tok a := ()
abbrev Pan := List PanicEntry → World → Prop

def RUN (P : Program) (X : Pan) (s : Sem Value) (w : World) (K : Value → World → Prop) (_x : Tok X := tok X) (_k : Tok K := tok K) : Prop :=
  match s.run P w with
  | .ok v w' => K v w'
  | .halt (.panic v) w' => X [{ v, recovered := false }] w'
  | _ => False

def RUNU (P : Program) (X : Pan) (s : Sem Unit) (w : World) (K : World → Prop) (_x : Tok X := tok X) (_k : Tok K := tok K) : Prop :=
  match s.run P w with
  | .ok _ w' => K w'
  | .halt (.panic v) w' => X [{ v, recovered := false }] w'
  | _ => False

def RUNN (P : Program) (X : Pan) (s : Sem Next) (w : World) (K : Value → World → Prop) : Prop :=
  match s.run P w with
  | .ok (.value v) w' => K v w'
  | .ok .skip w' => K undef w'
  | .ok (.enter f args) w' => Calls P f args w' fun
      | .returned v, w'' => K v w''
      | .panicked ch, w'' => X ch w''
      | .outgrown, _ => False
  | .ok (.row row args) w' => Rows P row args w' K
  | .halt (.panic v) w' => X [{ v, recovered := false }] w'
  | _ => False

def CALL (P : Program) (X : Pan) (f : FuncId) (args : Array Value) (w : World) (K : Value → World → Prop) (_x : Tok X := tok X) (_k : Tok K := tok K) : Prop := RUNN P X (callFunc f args) w K

def CALLV (P : Program) (X : Pan) (f : Value) (args : List Value) (w : World) (K : Value → World → Prop) (_x : Tok X := tok X) (_k : Tok K := tok K) : Prop :=
  match f with
  | .func (.func g) first cap => CALL P X g (first.toList ++ args ++ cap.toList).toArray w K
  | _ => False

/-- A call of yield: a round of the loop over this iterator. -/
def YIELD (P : Program) (X : Pan) (l : Nat) (args : Array Value) (w : World) (K : Value → World → Prop) (_x : Tok X := tok X) (_k : Tok K := tok K) : Prop :=
  YieldAt Fence.wide 0 P l args w fun
    | .returned v, w' => K v w'
    | .panicked ch, w' => X ch w'
    | .outgrown, _ => False

/-- A call of a function value that may be a loop's body. -/
def CALLY (P : Program) (X : Pan) (f : Value) (args : List Value) (w : World) (K : Value → World → Prop) (_x : Tok X := tok X) (_k : Tok K := tok K) : Prop :=
  match f with
  | .func (.func g) first cap => CALL P X g (first.toList ++ args ++ cap.toList).toArray w K
  | .func (.yield l) first _ => YIELD P X l (first.toList ++ args).toArray w K
  | _ => False

def PICK (c a b : Value) (K : Value → Prop) (_k : Tok K := tok K) : Prop :=
  match c with
  | .bool t => K (cond t a b)
  | _ => False

def NILC (v : Value) (K : Value → Prop) (_k : Tok K := tok K) : Prop :=
  match v with
  | .pointer none | .nilIface | .nilFunc => False
  | .func (.method _) _ _ => False
  | v => K v

def SPL (v : Value) (A B : Prop) (_a : Tok A := tok A) (_b : Tok B := tok B) : Prop :=
  match v with
  | .bool true => A
  | .bool false => B
  | _ => False

def SPLITF (v : Value) (F : Bool → Prop) : Prop := SPL v (F true) (F false)

def bins (op : BinOp) (t : TypeId) (x y : Operand) (a b : Value) : Sem Value := do eqGuard op t x y a b; binOp op t a b

inductive RK where
  | pure | load | eff

def rkind : Op → RK
  | .move _ | .assign _ | .pick .. | .nilCheck _ | .fieldAddr .. | .indexAddr .. | .binOp .. | .unOp .. | .extract .. | .field .. | .index .. | .slice .. | .build .. | .makeFunc .. | .makeInterface .. => .pure
  | .load .. | .lookup .. | .convert .. => .load
  | .call { callee := .builtin .len, .. } | .call { callee := .builtin .cap, .. } => .load
  | _ => .eff

/-- The operations that yield a value by one run of their own. -/
def semOf (op : Op) (ty : TypeId) (e : Operand → Value) : Option (Sem Value) :=
  match op with
  | .alloc t => some (Instr.alloc t true (.tuple #[]))
  | .box t x => some (Instr.box t (e x))
  | .build t parts => some (Instr.build t (parts.toList.map fun p => (p.1, e p.2)).toArray)
  | .buildSlice t len parts => some (Instr.buildSlice t len (parts.toList.map fun p => (p.1, e p.2)).toArray)
  | .load t a => some (Instr.loadAt t (e a))
  | .binOp op t x y _ => some (bins op t x y (e x) (e y))
  | .unOp op _ x => some (Op.unary op (e x))
  | .convert s d x => some (convert s d (e x))
  | .makeInterface t x => some (Instr.makeInterface t (e x))
  | .makeFunc fn first cap => some (Instr.makeFunc fn (first.toList.map e).toArray (cap.toList.map e).toArray)
  | .makeMap t r => some (Instr.makeMap t (r.map e))
  | .makeSlice t l c => some (Instr.makeSlice t (e l) (e c))
  | .slice t x lo hi mx => some (Instr.sliceAt t (e x) (lo.map e) (hi.map e) (mx.map e))
  | .fieldAddr s x f => some (Instr.fieldAt s (e x) f)
  | .field t x f => some (Instr.field t (e x) f)
  | .indexAddr t x i => some (Instr.indexAt t (e x) (e i))
  | .index t x i => some (Instr.index t (e x) (e i))
  | .lookup t x i ok => some (Instr.lookup t (e x) (e i) ok)
  | .mapEntry t m k => some (Instr.mapEntry t (e m) (e k))
  | .range t x => some (Instr.range t (e x))
  | .next it s => some (Instr.next (e it) s ty)
  | .entry it => some (Instr.entry (e it))
  | .typeAssert x t u ok => some (Instr.typeAssert (e x) t u ok)
  | .extract t i => some (Instr.extract (e t) i)
  | .panic x => some (Instr.panic (e x))
  | .call c =>
    match c.callee with
    | .builtin .append => some (Builtin.append_ c.argTypes ty (c.args.toList.map e).toArray)
    | .builtin .len => some (Builtin.len_ c.argTypes ty (c.args.toList.map e).toArray)
    | .builtin .cap => some (Builtin.cap_ c.argTypes ty (c.args.toList.map e).toArray)
    | .builtin .copy => some (Builtin.copy_ c.argTypes ty (c.args.toList.map e).toArray)
    | .builtin .delete => some (Builtin.delete_ c.argTypes ty (c.args.toList.map e).toArray)
    | .builtin .clear => some (Builtin.clear_ c.argTypes ty (c.args.toList.map e).toArray)
    | .builtin .min => some (Builtin.min_ c.argTypes ty (c.args.toList.map e).toArray)
    | .builtin .max => some (Builtin.max_ c.argTypes ty (c.args.toList.map e).toArray)
    | .builtin .unsafeString => some (Builtin.unsafeString_ c.argTypes ty (c.args.toList.map e).toArray)
    | .builtin .unsafeSliceData => some (Builtin.unsafeSliceData_ c.argTypes ty (c.args.toList.map e).toArray)
    | _ => none
  | _ => none

def opP (P : Program) (X : Pan) (op : Op) (ty : TypeId) (e : Operand → Value) (w : World) (K : Value → World → Prop) : Prop :=
  match op with
  | .move x => K (e x) w
  | .assign x => K (e x) w
  | .pick c a b => PICK (e c) (e a) (e b) fun v => K v w
  | .nilCheck x => NILC (e x) fun v => K v w
  | .store t a x => RUNU P X (Instr.storeAt t (e a) (e x)) w fun w' => K undef w'
  | .mapUpdate t m k x => RUNU P X (Instr.mapUpdate t (e m) (e k) (e x)) w fun w' => K undef w'
  | .insert t m k x => RUNU P X (Instr.mapUpdate t (e m) (e k) (e x)) w fun w' => K undef w'
  | .entryStore t m s x => RUNU P X (Instr.entryStore t (e m) (e s) (e x)) w fun w' => K undef w'
  | .call { callee := .value f, args, .. } => CALLV P X (e f) (args.toList.map e) w K
  | op =>
    match semOf op ty e with
    | some s => RUN P X s w K
    | none => False

/-- .. in a region that keeps the listed order, a call may be of yield. -/
def opQ (P : Program) (X : Pan) (op : Op) (ty : TypeId) (e : Operand → Value) (w : World) (K : Value → World → Prop) : Prop :=
  match op with
  | .call { callee := .value f, args, .. } => CALLY P X (e f) (args.toList.map e) w K
  | op => opP P X op ty e w K

theorem upon_RUN {P : Program} {X : Pan} {s : Sem Value} {w : World} {K : Value → World → Prop} {o : Oper} {a : Act} {next : Act → World → Prop} {Q : Exit → Act → World → Prop}
    (h : RUN P X s w K) (hX : ∀ ch w', X ch w' → Q (.panic ch) a w') (hK : ∀ v w', K v w' → next (a.put o.dst v) w') :
    o.upon P a next Q ((do pure (.value (← s)) : Sem Next).run P w) := by
  unfold RUN at h
  simp only [Sem.run_bind]
  split at h
  · rename_i v w' hr
    simp only [hr, Result.andThen_ok, Sem.run_pure]
    exact hK _ _ h
  · rename_i v w' hr
    rw [hr]
    exact hX _ _ h
  · exact h.elim

theorem upon_RUNU {P : Program} {X : Pan} {s : Sem Unit} {w : World} {K : World → Prop} {o : Oper} {a : Act} {next : Act → World → Prop} {Q : Exit → Act → World → Prop}
    (h : RUNU P X s w K) (hX : ∀ ch w', X ch w' → Q (.panic ch) a w') (hK : ∀ w', K w' → next (a.put o.dst undef) w') :
    o.upon P a next Q ((do s; pure .skip : Sem Next).run P w) := by
  unfold RUNU at h
  simp only [Sem.run_bind]
  split at h
  · rename_i v w' hr
    simp only [hr, Result.andThen_ok, Sem.run_pure]
    exact hK _ h
  · rename_i v w' hr
    rw [hr]
    exact hX _ _ h
  · exact h.elim

theorem upon_RUNN {P : Program} {X : Pan} {s : Sem Next} {w : World} {K : Value → World → Prop} {o : Oper} {a : Act} {next : Act → World → Prop} {Q : Exit → Act → World → Prop}
    (h : RUNN P X s w K) (hX : ∀ ch w', X ch w' → Q (.panic ch) a w') (hK : ∀ v w', K v w' → next (a.put o.dst v) w') :
    o.upon P a next Q (s.run P w) := by
  unfold RUNN at h
  split at h
  · rename_i v w' hr; rw [hr]; exact hK _ _ h
  · rename_i w' hr; rw [hr]; exact hK _ _ h
  · rename_i f args w' hr
    rw [hr]
    refine h.mono fun e w'' he => ?_
    cases e with
    | returned v => exact hK _ _ he
    | panicked ch => exact hX _ _ he
    | outgrown => exact he.elim
  · rename_i row args w' hr; rw [hr]; exact h.mono fun v w' hv => hK _ _ hv
  · rename_i v w' hr; rw [hr]; exact hX _ _ h
  · exact h.elim

theorem map_toList (c : Array Operand) (e : Operand → Value) : c.map e = (c.toList.map e).toArray := by
  apply Array.ext'; simp

theorem map_toList2 (c : Array (Nat × Operand)) (e : Operand → Value) : (c.map fun (i, x) => (i, e x)) = (c.toList.map fun p => (p.1, e p.2)).toArray := by
  apply Array.ext'; simp

theorem opP_sound {P : Program} {X : Pan} {o : Oper} {e : Operand → Value} {w : World} {K : Value → World → Prop} {a : Act} {next : Act → World → Prop} {Q : Exit → Act → World → Prop}
    (h : opP P X o.op o.type e w K) (hX : ∀ ch w', X ch w' → Q (.panic ch) a w') (hK : ∀ v w', K v w' → next (a.put o.dst v) w') :
    o.upon P a next Q ((execOp e o).run P w) := by
  obtain ⟨dst, op, ty, pos, after, guard⟩ := o
  unfold execOp
  cases op with
  | move x => simp only [Sem.run_pure]; exact hK _ _ h
  | assign x => simp only [Sem.run_pure]; exact hK _ _ h
  | pick c x y =>
    simp only [opP, PICK] at h
    split at h
    · rename_i t ht
      simp only [ht, asBool, Sem.run_bind, Sem.run_pure, Result.andThen_ok]
      cases t <;> exact hK _ _ h
    · exact h.elim
  | nilCheck x =>
    simp only [opP, NILC] at h
    simp only []
    split at h
    · exact h.elim
    · exact h.elim
    · exact h.elim
    · exact h.elim
    · rename_i h1 h2 h3 h4
      split <;> first
        | (rename_i hx; exact absurd hx h1)
        | (rename_i hx; exact absurd hx h2)
        | (rename_i hx; exact absurd hx h3)
        | (rename_i hx; exact absurd hx (h4 _ _ _))
        | (simp only [Sem.run_pure]; exact hK _ _ h)
  | store t x y => exact upon_RUNU h hX (fun w' hw => hK _ _ hw)
  | mapUpdate t m k x => exact upon_RUNU h hX (fun w' hw => hK _ _ hw)
  | insert t m k x => exact upon_RUNU h hX (fun w' hw => hK _ _ hw)
  | entryStore t m k x => exact upon_RUNU h hX (fun w' hw => hK _ _ hw)
  | alloc t => exact upon_RUN h hX hK
  | box t x => exact upon_RUN h hX hK
  | build t ps => simp only [map_toList2]; exact upon_RUN h hX hK
  | buildSlice t n ps => simp only [map_toList2]; exact upon_RUN h hX hK
  | load t x => exact upon_RUN h hX hK
  | binOp op t x y u => exact upon_RUN h hX hK
  | unOp op t x => exact upon_RUN h hX hK
  | convert s d x => exact upon_RUN h hX hK
  | makeInterface t x => exact upon_RUN h hX hK
  | makeFunc fn f c => simp only [map_toList]; exact upon_RUN h hX hK
  | makeMap t r => exact upon_RUN h hX hK
  | makeSlice t l c => exact upon_RUN h hX hK
  | slice t x l hi m => exact upon_RUN h hX hK
  | fieldAddr s x f => exact upon_RUN h hX hK
  | field s x f => exact upon_RUN h hX hK
  | indexAddr s x f => exact upon_RUN h hX hK
  | index s x f => exact upon_RUN h hX hK
  | lookup s x f ok => exact upon_RUN h hX hK
  | mapEntry s x f => exact upon_RUN h hX hK
  | range s x => exact upon_RUN h hX hK
  | next s x => exact upon_RUN h hX hK
  | entry s => exact upon_RUN h hX hK
  | typeAssert x t u ok => exact upon_RUN h hX hK
  | extract t i => exact upon_RUN h hX hK
  | panic x => exact upon_RUN h hX hK
  | call c =>
    obtain ⟨callee, args, argTypes⟩ := c
    cases callee with
    | value f =>
      simp only [opP, CALLV] at h
      split at h
      · rename_i g first cap hf
        have hargs : first ++ args.map e ++ cap = (first.toList ++ args.toList.map e ++ cap.toList).toArray := by
          apply Array.ext'; simp
        simp only [resolve, Deferred.ofValue, hf, Sem.run_bind, Sem.run_pure, Result.andThen_ok, invoke, hargs]
        exact upon_RUNN h hX hK
      · exact h.elim
    | invoke r m => simp [opP, semOf] at h
    | builtin b =>
      cases b <;> simp only [opP, semOf] at h <;> first
        | exact h.elim
        | (simp only [resolve, invoke, builtin, Sem.run_bind, Sem.run_pure, Result.andThen_ok, map_toList]
           have := upon_RUN (o := ⟨dst, .call ⟨.builtin _, args, argTypes⟩, ty, pos, after, guard⟩) h hX hK
           simpa only [Sem.run_bind, Sem.run_pure] using this)
  | _ => simp [opP, semOf] at h

theorem uponIn_of_upon {P : Program} {o : Oper} {a : Act} {next : Act → World → Prop} {Q : Exit → Act → World → Prop} {n : Nat} {r : Result Next} (h : o.upon P a next Q r) : o.uponIn Fence.wide n P a next Q r := by
  cases r with
  | ok x w' =>
    cases x with
    | enter f args => exact ⟨fun h => by simp [Fence.wide] at h, callsIn_wide.2 h⟩
    | row row args =>
      refine ⟨fun h => by simp [Fence.wide] at h, fun c cs _ => ?_⟩
      obtain ⟨v, w'', hr, hs⟩ := h c cs
      exact ⟨v, w'', hr, stepsIn_wide.2 hs⟩
    | value v => exact h
    | skip => exact h
    | defer d => exact h
    | _ => exact h.elim
  | halt x w' =>
    cases x with
    | panic v => exact h
    | _ => exact h.elim

theorem opQ_sound {P : Program} {X : Pan} {o : Oper} {e : Operand → Value} {w : World} {K : Value → World → Prop} {a : Act} {next : Act → World → Prop} {Q : Exit → Act → World → Prop}
    (h : opQ P X o.op o.type e w K) (hX : ∀ ch w', X ch w' → Q (.panic ch) a w') (hK : ∀ v w', K v w' → next (a.put o.dst v) w') :
    o.uponIn Fence.wide 0 P a next Q ((execOp e o).run P w) := by
  by_cases hv : ∃ f args ts, o.op = .call ⟨.value f, args, ts⟩
  · obtain ⟨f, args, ts, hop⟩ := hv
    rw [hop] at h
    simp only [opQ] at h
    by_cases hy : ∃ l first cap, e f = .func (.yield l) first cap
    · obtain ⟨l, first, cap, hf⟩ := hy
      rw [hf] at h
      obtain ⟨fn, tmps, assign, body, hrun, hr⟩ := h
      have hargs : first ++ args.map e = (first.toList ++ args.toList.map e).toArray := by
        apply Array.ext'; simp
      have hx : (execOp e o).run P w = .ok (.round l fn tmps assign body) w := by
        obtain ⟨dst, op, ty, pos, after, guard⟩ := o
        simp only at hop
        subst hop
        unfold execOp
        simp only [resolve, Deferred.ofValue, hf, Sem.run_bind, Sem.run_pure, Result.andThen_ok, invoke, hargs]
        exact hrun
      rw [hx]
      refine ⟨fun h => by simp [Fence.wide] at h, hr.mono fun ev w' he => ?_⟩
      cases ev with
      | returned v => exact hK _ _ he
      | panicked ch => exact hX _ _ he
      | outgrown => exact he.elim
    · refine uponIn_of_upon (opP_sound (K := K) (X := X) ?_ hX hK)
      rw [hop]
      simp only [opP]
      unfold CALLY at h
      split at h
      · rename_i hf; rw [hf]; exact h
      · rename_i hf; exact absurd ⟨_, _, _, hf⟩ hy
      · exact h.elim
  · refine uponIn_of_upon (opP_sound (K := K) (X := X) ?_ hX hK)
    unfold opQ at h
    split at h
    · rename_i f args ts hop
      exact absurd ⟨_, _, _, hop⟩ hv
    · exact h

attribute [irreducible] RUN RUNU RUNN CALL
end Go.Px
