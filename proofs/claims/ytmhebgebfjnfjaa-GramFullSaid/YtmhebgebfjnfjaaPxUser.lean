/-
  Words for proofs over the shallow programs: contracts, calls, tests; data in memory.
-/
import Derived.Test.YtmhebgebfjnfjaaPxCode
import Derived.Below
import Derived.OwnWalk
namespace Go.Px
open Go.RowKit

/-! ### Contracts -/
def RT (S : Value → World → Prop) : Ending → World → Prop
  | .returned v, w => S v w
  | _, _ => False

theorem RT_ret (S : Value → World → Prop) (v : Value) (w : World) : RT S (.returned v) w = S v w := rfl

/-- A call of 'f' comes to its body and returns with 'S'. -/
def Ct (P : Program) (f : FuncId) (args : Array Value) (w : World) (S : Value → World → Prop) : Prop := Enters P f ∧ Calls P f args w (RT S)

theorem Ct.mono {P : Program} {f : FuncId} {args : Array Value} {w : World} {S S' : Value → World → Prop} (h : Ct P f args w S) (hs : ∀ v w', S v w' → S' v w') : Ct P f args w S' :=
  ⟨h.1, h.2.mono fun e w' he => by cases e <;> first | exact hs _ _ he | exact he⟩

theorem Ct.intro {P : Program} {f : FuncId} {args : Array Value} {w : World} {S : Value → World → Prop} (he : Enters P f) (h : ∀ R : Ending → World → Prop, (∀ v w', S v w' → R (.returned v) w') → Calls P f args w R) : Ct P f args w S :=
  ⟨he, h (RT S) fun _ _ hs => hs⟩

theorem CALL_of {P : Program} {X : Pan} {f : FuncId} {args : Array Value} {w : World} {K S : Value → World → Prop} (h : Ct P f args w S) (hk : ∀ v w', S v w' → K v w') : CALL P X f args w K := by
  unfold CALL RUNN
  rw [h.1 args w]
  exact h.2.mono fun e w' he => by cases e <;> first | exact hk _ _ he | exact he.elim

theorem CALLV_of {P : Program} {X : Pan} {g : FuncId} {first cap : Array Value} {args : List Value} {w : World} {K S : Value → World → Prop} (h : Ct P g (first.toList ++ args ++ cap.toList).toArray w S) (hk : ∀ v w', S v w' → K v w') :
    CALLV P X (.func (.func g) first cap) args w K := CALL_of h hk

theorem CALLY_of {P : Program} {X : Pan} {g : FuncId} {first cap : Array Value} {args : List Value} {w : World} {K S : Value → World → Prop} (h : Ct P g (first.toList ++ args ++ cap.toList).toArray w S) (hk : ∀ v w', S v w' → K v w') :
    CALLY P X (.func (.func g) first cap) args w K := CALL_of h hk

/-- A round of the loop over an iterator. -/
theorem CALLY_yield {P : Program} {X : Pan} {l : Nat} {args : List Value} {w : World} {K : Value → World → Prop} {R : Ending → World → Prop} (h : YieldAt Fence.wide 0 P l args.toArray w R)
    (hk : ∀ e w', R e w' → ∃ v, e = .returned v ∧ K v w') : CALLY P X (.func (.yield l) #[] #[]) args w K := by
  obtain ⟨fn, tmps, assign, body, hrun, hr⟩ := h
  exact ⟨fn, tmps, assign, body, hrun, hr.mono fun e w' he => by obtain ⟨v, rfl, hv⟩ := hk e w' he; exact hv⟩

theorem SPL_intro {p : Bool} {A B : Prop} (ha : p = true → A) (hb : p = false → B) : SPL (.bool p) A B := by
  cases p
  · exact hb rfl
  · exact ha rfl

/-! ### How simp goes through a piece: from the left, never below the binder of what follows -/
section
variable {P : Program} {X : Pan} {w w' : World} {v v' a b : Value} {A B : Prop}
theorem SPL_true : SPL (.bool true) A B = A := rfl
theorem SPL_false : SPL (.bool false) A B = B := rfl
theorem PICK_bool {t : Bool} {K : Value → Prop} : PICK (.bool t) a b K = K (cond t a b) := rfl
theorem NILC_some {p : Addr} {K : Value → Prop} : NILC (.pointer (some p)) K = K (.pointer (some p)) := rfl

end

def RES (X : Pan) (r : Result Value) (K : Value → World → Prop) (_x : Tok X := tok X) (_k : Tok K := tok K) : Prop :=
  match r with
  | .ok v w' => K v w'
  | .halt (.panic v) w' => X [{ v, recovered := false }] w'
  | _ => False
def RESU (X : Pan) (r : Result Unit) (K : World → Prop) (_x : Tok X := tok X) (_k : Tok K := tok K) : Prop :=
  match r with
  | .ok _ w' => K w'
  | .halt (.panic v) w' => X [{ v, recovered := false }] w'
  | _ => False
def RESL (w : World) (r : Result Value) (K : Value → Prop) (_k : Tok K := tok K) : Prop := ∃ v, r = .ok v w ∧ K v
def RESP (f : World → Result Value) (K : Value → Prop) (_k : Tok K := tok K) : Prop := ∃ v, (∀ w, f w = .ok v w) ∧ K v

section
variable {P : Program} {X : Pan} {w w' : World} {v : Value}
theorem RUN_eq {s : Sem Value} {K : Value → World → Prop} : RUN P X s w K = RES X (s.run P w) K := by unfold RUN RES; rfl
theorem RUNU_eq {s : Sem Unit} {K : World → Prop} : RUNU P X s w K = RESU X (s.run P w) K := by unfold RUNU RESU; rfl
theorem LD_eq {s : Sem Value} {K : Value → Prop} : LD P s w K = RESL w (s.run P w) K := by unfold LD RESL; rfl
theorem PUR_eq {s : Sem Value} {K : Value → Prop} : PUR P s K = RESP (fun w => s.run P w) K := by unfold PUR RESP; rfl
theorem RES_ok {K : Value → World → Prop} : RES X (.ok v w) K = K v w := rfl
theorem RESU_ok {u : Unit} {K : World → Prop} : RESU X (.ok u w) K = K w := rfl
theorem RESL_ok {K : Value → Prop} : RESL w (.ok v w) K = K v := by
  apply propext
  constructor
  · rintro ⟨v', h, hk⟩; injection h with h1; subst h1; exact hk
  · exact fun hk => ⟨v, rfl, hk⟩
theorem RESP_ok {K : Value → Prop} : RESP (fun w => .ok v w) K = K v := by
  apply propext
  constructor
  · rintro ⟨v', h, hk⟩; have := h default; injection this with h1; subst h1; exact hk
  · exact fun hk => ⟨v, fun _ => rfl, hk⟩
end

attribute [irreducible] RES RESU RESL RESP
attribute [go_sem ↓] RUN_eq RUNU_eq LD_eq PUR_eq
attribute [go_sem] IntWalk.i64_in IntWalk.u8_in IntWalk.i32_in
attribute [go_sem] RES_ok RESU_ok RESL_ok RESP_ok bins SPL_true SPL_false PICK_bool NILC_some RT_ret

end Go.Px
