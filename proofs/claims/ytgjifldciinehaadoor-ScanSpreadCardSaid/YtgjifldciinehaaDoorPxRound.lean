/-
  Code as a predicate, in the round of a range over a function.
-/
import Derived.Test.YtgjifldciinehaaDoorPxRange
import Derived.OrdersIn
namespace Go.Px
open Go.RowKit

def noDefer (o : Oper) : Bool := match o.op with | .defer _ => false | _ => true
theorem noDefer_spec {o : Oper} (h : noDefer o = true) : ∀ c, o.op ≠ .defer c := by
  intro c hc
  unfold noDefer at h
  rw [hc] at h
  cases h

/-- Code that a round may run. -/
def codeOkR : Code → Bool
  | .region _ ops _ => ops.toList.all noDefer
  | .seq a b => codeOkR a && codeOkR b
  | .cond _ x y => codeOkR x && codeOkR y
  | .block _ b => codeOkR b
  | .loop b => codeOkR b
  | .scope _ => false
  | .rangeFunc .. => false
  | _ => true

def rngB : Code → Code | .rangeFunc _ _ _ b => b | c => c

theorem look_mem : ∀ {l : List (Nat × (Env → World → Prop))} {id : Nat} {ρ : Env} {w : World}, look l id ρ w → ∃ q, (id, q) ∈ l ∧ q ρ w
  | [], _, _, _, h => h.elim
  | (k, q) :: l, id, ρ, w, h => by
    unfold look at h
    cases hb : Nat.beq k id with
    | true =>
      rw [hb] at h
      have := Nat.eq_of_beq_eq_true hb
      subst this
      exact ⟨q, by simp, h⟩
    | false =>
      rw [hb] at h
      obtain ⟨q', hm, hq⟩ := look_mem h
      exact ⟨q', by simp [hm], hq⟩

section
variable {P : Program} {l : Nat} {ops : Array Oper} {Q : Exit → Act → World → Prop}

theorem wpIn_toRound {o : Oper} (hnd : ∀ c, o.op ≠ .defer c) {a : Act} {w : World} {K : Act → World → Prop} (h : o.wpIn Fence.wide 0 P a w K Q) : o.wpIn (Fence.wide.inRound l) 0 P a w K Q := by
  refine ⟨h.1, ?_⟩
  have h2 := h.2
  rw [Oper.semAt_eq _ _ _ hnd] at h2 ⊢
  exact h2

theorem wpList_toRound : ∀ (os : List Oper) (a : Act) (w : World), (∀ o ∈ os, noDefer o = true) → wpListIn Fence.wide 0 P ops Q os a w → wpListIn (Fence.wide.inRound l) 0 P ops Q os a w
  | [], _, _, _, h => h
  | o :: os, a, w, hn, h => by
    unfold wpListIn at h ⊢
    split at h
    · rename_i hw
      rw [if_pos hw]
      exact wpIn_toRound (noDefer_spec (hn o (by simp))) (Oper.wpIn_mono (fun a w h => wpList_toRound os a w (fun o ho => hn o (by simp [ho])) h) h)
    · rename_i hw
      rw [if_neg hw]
      exact ⟨h.1, wpList_toRound os _ w (fun o ho => hn o (by simp [ho])) h.2⟩

theorem wpAny_toRound (hQ : ¬ LetsOut Q) (hn : ∀ o ∈ ops.toList, noDefer o = true) : ∀ (n : Nat) (L : Array Bool) (a : Act) (w : World), wpAny P .any ops Q n L a w → wpAnyIn (Fence.wide.inRound l) 0 P .any ops Q n L a w
  | 0, _, _, _, h => h
  | n + 1, L, a, w, h => by
    refine ⟨h.1, fun i hi => ?_⟩
    have h2 := h.2 i hi
    unfold wpOp at h2
    unfold wpOpIn
    cases ho : ops[i]? with
    | none => rw [ho] at h2; exact wpAny_toRound hQ hn n _ a w h2
    | some o =>
      rw [ho] at h2
      simp only at h2 ⊢
      have hno := noDefer_spec (hn o (List.mem_of_getElem? (by rw [Array.getElem?_toList]; exact ho)))
      split at h2
      · rename_i hw
        rw [if_pos hw]
        rcases h2 with h2 | h2
        · refine wpIn_toRound hno (Oper.wpIn_mono (fun a w h => wpAny_toRound hQ hn n _ a w h) ⟨fun f _ => trivial, ?_⟩)
          rw [show Fence.wide.round = none from rfl, Oper.semAt_none]
          exact uponIn_of_upon h2
        · exact absurd h2.2 hQ
      · rename_i hw
        rw [if_neg hw]
        exact ⟨fun f _ => trivial, wpAny_toRound hQ hn n _ _ w h2⟩

theorem codeR_sound {X : Pan} {N : Nat} (hm : P.follows .mixedOrders = true) : ∀ (c : Code) (Q : Exit → Env → World → Prop) (ρ : Env) (a : Act) (w : World), (∀ ρ w, ¬ Q .outgrown ρ w) → codeOk N c = true → codeOkR c = true → Rel N a ρ → codeP P X c Q ρ w →
    c.wpIn (Fence.wide.inRound l) 0 P (post X N Q) a w := by
  intro c
  induction c with
  | skip => intro Q ρ a w _ _ _ hr h; exact wpIn_skip ⟨ρ, hr, h⟩
  | label l => intro Q ρ a w _ _ _ hr h; exact wpIn_label ⟨ρ, hr, h⟩
  | exit id => intro Q ρ a w _ _ _ hr h; exact wpIn_exit ⟨ρ, hr, h⟩
  | ret => intro Q ρ a w _ _ _ hr h; exact wpIn_ret ⟨ρ, hr, h⟩
  | goto l => intro Q ρ a w _ _ _ hr h; exact wpIn_goto ⟨ρ, hr, h⟩
  | region id ops d =>
    intro Q ρ a w hno hok hokR hr h
    have hnd : ∀ o ∈ ops.toList, noDefer o = true := fun o ho => List.all_eq_true.1 hokR o ho
    cases d with
    | false =>
      refine wpIn_region_list (wpList_toRound _ _ _ hnd ?_)
      exact opsP_sound (Q := post X N Q) (fun _ _ _ hd hx => ⟨hd, hx⟩) hok (fun a ρ w hr hk => ⟨ρ, hr, hk⟩) _ _ _ _ _ (fun o ho => List.all_eq_true.1 hok o ho) hr h
    | true =>
      refine wpIn_region_any hm (wpAny_toRound ?_ hnd _ _ _ _ (wpAny_of_W _ _ [] _ _ ?_))
      · rintro ⟨a, w, ρ, _, h⟩; exact hno ρ w h
      · exact drawP_sound (Q := post X N Q) (fun _ _ _ hd hx => ⟨hd, hx⟩) (fun _ _ _ _ hd hx => ⟨hd.trans hx.1, hx.2⟩) hok (fun a ρ w hr hk => ⟨ρ, hr, hk⟩) _ _ _ _ _ _ (closed_none _) (fun γ hγ => by cases hγ) hr h
  | seq x y ihx ihy =>
    intro Q ρ a w hno hok hokR hr h
    simp only [codeOk, codeOkR, Bool.and_eq_true] at hok hokR
    refine wpIn_seq (wpIn_mono (ihx (thenE (codeP P X y Q) Q) _ _ _ (fun ρ w h => hno ρ w h) hok.1 hokR.1 hr h) fun e a' w' hq => ?_)
    cases e with
    | normal => obtain ⟨ρ', hr', hq'⟩ := hq; exact ihy _ _ _ _ hno hok.2 hokR.2 hr' hq'
    | panic ch => exact hq
    | _ => exact hq
  | cond c x y ihx ihy =>
    intro Q ρ a w hno hok hokR hr h
    simp only [codeOk, codeOkR, Bool.and_eq_true] at hok hokR
    obtain ⟨b, hb, hq⟩ := SPLITF_elim h
    refine wpIn_cond (t := b) (by rw [hr.eval]; exact hb) ?_
    cases b with
    | true => exact ihx _ _ _ _ hno hok.1 hokR.1 hr hq
    | false => exact ihy _ _ _ _ hno hok.2 hokR.2 hr hq
  | block id b ih =>
    intro Q ρ a w hno hok hokR hr h
    refine wpIn_block (wpIn_mono (ih (blockE id Q) _ _ _ (fun ρ w h => hno ρ w h) hok hokR hr h) fun e a' w' hq => ?_)
    cases e with
    | exit k =>
      obtain ⟨ρ', hr', hq'⟩ := hq
      simp only [blockE] at hq'
      simp only [Exit.inBlock]
      by_cases hk : k = id
      · subst hk
        rw [if_pos rfl]
        have : Nat.beq k k = true := by simp
        rw [this] at hq'
        exact ⟨ρ', hr', hq'⟩
      · rw [if_neg hk]
        have : Nat.beq k id = false := by
          cases hh : Nat.beq k id with
          | false => rfl
          | true => exact absurd (Nat.eq_of_beq_eq_true hh) hk
        rw [this] at hq'
        exact ⟨ρ', hr', hq'⟩
    | panic ch => exact hq
    | _ => exact hq
  | loop b ih =>
    intro Q ρ a w hno hok hokR hr h
    obtain ⟨I, μ, h0, hround⟩ := h
    refine wpIn_loop (fun a' w' => ∃ ρ', Rel N a' ρ' ∧ I ρ' w') (fun a' w' => μ (fun n => a'.tmps.getD n undef) w') ⟨ρ, hr, h0⟩ ?_
    rintro a' w' ⟨ρ', hr', hI⟩
    have hρ : ∀ {a : Act} {ρ : Env}, Rel N a ρ → (fun n => a.tmps.getD n undef) = ρ := fun h => funext h.get
    refine wpIn_mono (ih (thenE (fun ρ'' w'' => I ρ'' w'' ∧ μ ρ'' w'' < μ ρ' w') Q) _ _ _ (fun ρ w h => hno ρ w h) hok hokR hr' (hround ρ' w' hI)) fun e a'' w'' hq => ?_
    cases e with
    | normal =>
      obtain ⟨ρ'', hr'', hI'', hlt⟩ := hq
      exact ⟨⟨ρ'', hr'', hI''⟩, by rw [hρ hr'', hρ hr']; exact hlt⟩
    | panic ch => exact hq
    | _ => exact hq
  | scope body ih => intro Q ρ a w hno hok hokR hr h; cases hokR
  | _ => intro Q ρ a w hno hok hokR hr h; exact h.elim
end
end Go.Px
