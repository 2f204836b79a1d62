/-
  Code as a predicate over slots, and that it is sound.
-/
import Derived.Test.YtmhebgebfjnfjaaPxRegion
namespace Go.Px

def thenE (N : Env → World → Prop) (Q : Exit → Env → World → Prop) : Exit → Env → World → Prop
  | .normal => N
  | e => Q e

def blockE (id : Nat) (Q : Exit → Env → World → Prop) : Exit → Env → World → Prop
  | .exit k => cond (Nat.beq k id) (Q .normal) (Q (.exit k))
  | e => Q e

/-- Of a labelled scope: a jump to its label goes round; other jumps are not looked at. -/
def gotoE (l : Nat) (N : Env → World → Prop) (Q : Exit → Env → World → Prop) : Exit → Env → World → Prop
  | .goto k => cond (Nat.beq k l) N (fun _ _ => False)
  | e => Q e

def codeP (P : Program) (X : Pan) : Code → (Exit → Env → World → Prop) → Env → World → Prop
  | .skip, Q, ρ, w => Q .normal ρ w
  | .label _, Q, ρ, w => Q .normal ρ w
  | .region _ ops false, Q, ρ, w => opsP P X ops 0 ops.toList ρ w (Q .normal)
  | .region _ ops true, Q, ρ, w => drawP P X ops ops.size (Array.replicate ops.size false) [] ρ w.drew (Q .normal)
  | .seq a b, Q, ρ, w => codeP P X a (thenE (codeP P X b Q) Q) ρ w
  | .cond c x y, Q, ρ, w => SPLITF (ev ρ c) fun b => cond b (codeP P X x Q ρ w) (codeP P X y Q ρ w)
  | .block id b, Q, ρ, w => codeP P X b (blockE id Q) ρ w
  | .loop b, Q, ρ, w => ∃ (I : Env → World → Prop) (μ : Env → World → Nat), I ρ w ∧ ∀ ρ' w', I ρ' w' → codeP P X b (thenE (fun ρ'' w'' => I ρ'' w'' ∧ μ ρ'' w'' < μ ρ' w') Q) ρ' w'
  | .exit id, Q, ρ, w => Q (.exit id) ρ w
  | .ret, Q, ρ, w => Q .ret ρ w
  | .goto l, Q, ρ, w => Q (.goto l) ρ w
  | .scope (.seq (.label l) b), Q, ρ, w => ∃ (I : Env → World → Prop) (μ : Env → World → Nat), I ρ w ∧ ∀ ρ' w', I ρ' w' → codeP P X b (gotoE l (fun ρ'' w'' => I ρ'' w'' ∧ μ ρ'' w'' < μ ρ' w') Q) ρ' w'
  | _, _, _, _ => False

def codeOk (N : Nat) : Code → Bool
  | .region _ ops false => dstsIn N ops
  | .region _ ops true => opsOk N ops
  | .seq a b => codeOk N a && codeOk N b
  | .cond _ x y => codeOk N x && codeOk N y
  | .block _ b => codeOk N b
  | .loop b => codeOk N b
  | .scope (.seq (.label _) b) => codeOk N b
  | _ => true

/-- The posts of frames and of slots. -/
def post (X : Pan) (N : Nat) (Q : Exit → Env → World → Prop) : Exit → Act → World → Prop
  | .panic ch, a, w => a.defers = [] ∧ X ch w
  | e, a, w => ∃ ρ, Rel N a ρ ∧ Q e ρ w

theorem wp_scope_round {P : Program} {l : Nat} {c : Code} {Q : Exit → Act → World → Prop} {a : Act} {w : World} (I : Act → World → Prop) (μ : Act → World → Nat) (h0 : I a w)
    (round : ∀ a w, I a w → c.wp P (fun | .goto k, a', w' => k = l ∧ I a' w' ∧ μ a' w' < μ a w | e, a', w' => Q e a' w') a w) : (Code.scope (.seq (.label l) c)).wp P Q a w := by
  intro b k cs
  have key : ∀ n a w, μ a w = n → I a w → ∃ e a' w', Q e a' w' ∧ (∀ l, e ≠ .goto l) ∧ Arrives P (lone (b.at a (.code c :: .inScope (.seq (.label l) c) :: k)) cs w) b (.inScope (.seq (.label l) c) :: k) cs e a' w' := by
    intro n
    induction n using Nat.strongRecOn with
    | _ n ih =>
      intro a w hn hI
      obtain ⟨e, a₁, w₁, hq, harr⟩ := round a w hI b (.inScope (.seq (.label l) c) :: k) cs
      cases e with
      | goto k' =>
        obtain ⟨rfl, hI₁, hlt⟩ := hq
        obtain ⟨e₂, a₂, w₂, hq₂, hne, harr₂⟩ := ih (μ a₁ w₁) (hn ▸ hlt) a₁ w₁ rfl hI₁
        have hs := harr (.code (.seq .skip c) :: .inScope (.seq (.label k') c) :: k) (by simp [gotoIn, findLabel])
        exact ⟨e₂, a₂, w₂, hq₂, hne, .of_steps (hs.trans (.head step_seq (.one step_skip))) harr₂⟩
      | normal => exact ⟨_, a₁, w₁, hq, by simp, harr⟩
      | exit id => exact ⟨_, a₁, w₁, hq, by simp, harr⟩
      | ret => exact ⟨_, a₁, w₁, hq, by simp, harr⟩
      | panic ch => exact ⟨_, a₁, w₁, hq, by simp, harr⟩
      | outgrown => exact ⟨_, a₁, w₁, hq, by simp, harr⟩
  obtain ⟨e, a', w', hq, hne, harr⟩ := key _ a w rfl h0
  have hin : Steps P (lone (b.at a (.code (.scope (.seq (.label l) c)) :: k)) cs w) (lone (b.at a (.code c :: .inScope (.seq (.label l) c) :: k)) cs w) :=
    .head step_scope (.head step_seq (.one step_label))
  cases e with
  | normal => exact ⟨.normal, a', w', hq, hin.trans (Steps.trans harr (.one step_inScope))⟩
  | exit id => exact ⟨.exit id, a', w', hq, fun k' hk => hin.trans (harr k' (by simp [exitTo, hk]))⟩
  | goto l => exact absurd rfl (hne l)
  | ret => exact ⟨_, a', w', hq, .of_steps hin harr⟩
  | panic ch => exact ⟨_, a', w', hq, .of_steps hin harr⟩
  | outgrown => exact ⟨_, a', w', hq, .of_steps hin harr⟩

def Snd (P : Program) (X : Pan) (N : Nat) (c : Code) : Prop := ∀ (Q : Exit → Env → World → Prop) (ρ : Env) (a : Act) (w : World), codeOk N c = true → Rel N a ρ → codeP P X c Q ρ w → c.wp P (post X N Q) a w

theorem codeP_sound' {P : Program} {X : Pan} {N : Nat} (hm : P.follows .mixedOrders = true) : ∀ (c : Code), Snd P X N c ∧ ∀ l b, c = .seq (.label l) b → Snd P X N b := by
  intro c
  induction c with
  | skip =>
    refine ⟨?_, fun l b h => by cases h⟩
    intro Q ρ a w _ hr h; exact wp_skip ⟨ρ, hr, h⟩
  | label l =>
    refine ⟨?_, fun l b h => by cases h⟩
    intro Q ρ a w _ hr h; exact wp_label ⟨ρ, hr, h⟩
  | exit id =>
    refine ⟨?_, fun l b h => by cases h⟩
    intro Q ρ a w _ hr h; exact wp_exit ⟨ρ, hr, h⟩
  | ret =>
    refine ⟨?_, fun l b h => by cases h⟩
    intro Q ρ a w _ hr h; exact wp_ret ⟨ρ, hr, h⟩
  | region id ops d =>
    refine ⟨?_, fun l b h => by cases h⟩
    intro Q ρ a w hok hr h
    cases d with
    | false =>
      refine wpIn_wide.1 (wpIn_region_list (n := 0) ?_)
      exact opsP_sound (Q := post X N Q) (fun _ _ _ hd hx => ⟨hd, hx⟩) hok (fun a ρ w hr hk => ⟨ρ, hr, hk⟩) _ _ _ _ _ (fun o ho => List.all_eq_true.1 hok o ho) hr h
    | true =>
      refine wp_region_any hm (wpAny_of_W _ _ [] _ _ ?_)
      exact drawP_sound (Q := post X N Q) (fun _ _ _ hd hx => ⟨hd, hx⟩) (fun _ _ _ _ hd hx => ⟨hd.trans hx.1, hx.2⟩) hok (fun a ρ w hr hk => ⟨ρ, hr, hk⟩) _ _ _ _ _ _ (closed_none _) (fun γ hγ => by cases hγ) hr h
  | seq x y ihx ihy =>
    refine ⟨?_, fun l b h => by injection h with h1 h2; subst h2; exact ihy.1⟩
    intro Q ρ a w hok hr h
    simp only [codeOk, Bool.and_eq_true] at hok
    refine wp_seq (wp_mono (ihx.1 _ _ _ _ hok.1 hr h) fun e a' w' hq => ?_)
    cases e with
    | normal => obtain ⟨ρ', hr', hq'⟩ := hq; exact ihy.1 _ _ _ _ hok.2 hr' hq'
    | panic ch => exact hq
    | _ => exact hq
  | cond c x y ihx ihy =>
    refine ⟨?_, fun l b h => by cases h⟩
    intro Q ρ a w hok hr h
    simp only [codeOk, Bool.and_eq_true] at hok
    obtain ⟨b, hb, hq⟩ := SPLITF_elim h
    refine wp_cond (t := b) (by rw [hr.eval]; exact hb) ?_
    cases b with
    | true => exact ihx.1 _ _ _ _ hok.1 hr hq
    | false => exact ihy.1 _ _ _ _ hok.2 hr hq
  | block id b ih =>
    refine ⟨?_, fun l b h => by cases h⟩
    intro Q ρ a w hok hr h
    refine wp_block (wp_mono (ih.1 _ _ _ _ hok hr h) fun e a' w' hq => ?_)
    cases e with
    | exit k =>
      obtain ⟨ρ', hr', hq'⟩ := hq
      simp only [blockE] at hq'
      simp only [Exit.inBlock]
      by_cases hk : k = id
      · subst hk
        rw [if_pos rfl]
        have : Nat.beq k k = true := by simp
        rw [this] at hq'
        exact ⟨ρ', hr', hq'⟩
      · rw [if_neg hk]
        have : Nat.beq k id = false := by
          cases hh : Nat.beq k id with
          | false => rfl
          | true => exact absurd (Nat.eq_of_beq_eq_true hh) hk
        rw [this] at hq'
        exact ⟨ρ', hr', hq'⟩
    | panic ch => exact hq
    | _ => exact hq
  | loop b ih =>
    refine ⟨?_, fun l b h => by cases h⟩
    intro Q ρ a w hok hr h
    obtain ⟨I, μ, h0, hround⟩ := h
    refine wp_loop (fun a' w' => ∃ ρ', Rel N a' ρ' ∧ I ρ' w') (fun a' w' => μ (fun n => a'.tmps.getD n undef) w') ⟨ρ, hr, h0⟩ ?_
    rintro a' w' ⟨ρ', hr', hI⟩
    have hρ : ∀ {a : Act} {ρ : Env}, Rel N a ρ → (fun n => a.tmps.getD n undef) = ρ := fun h => funext h.get
    refine wp_mono (ih.1 _ _ _ _ hok hr' (hround ρ' w' hI)) fun e a'' w'' hq => ?_
    cases e with
    | normal =>
      obtain ⟨ρ'', hr'', hI'', hlt⟩ := hq
      exact ⟨⟨ρ'', hr'', hI''⟩, by rw [hρ hr'', hρ hr']; exact hlt⟩
    | panic ch => exact hq
    | _ => exact hq
  | goto l => exact ⟨fun Q ρ a w _ hr h => wp_goto ⟨ρ, hr, h⟩, fun l b h => by cases h⟩
  | scope body ih =>
    refine ⟨fun Q ρ a w hok hr h => ?_, fun l b h => by cases h⟩
    cases body with
    | seq x b =>
      cases x with
      | label l =>
        obtain ⟨I, μ, h0, hround⟩ := h
        refine wp_scope_round (fun a' w' => ∃ ρ', Rel N a' ρ' ∧ I ρ' w') (fun a' w' => μ (fun n => a'.tmps.getD n undef) w') ⟨ρ, hr, h0⟩ ?_
        rintro a' w' ⟨ρ', hr', hI⟩
        have hρ : ∀ {a : Act} {ρ : Env}, Rel N a ρ → (fun n => a.tmps.getD n undef) = ρ := fun h => funext h.get
        refine wp_mono (ih.2 l b rfl _ _ _ _ hok hr' (hround ρ' w' hI)) fun e a'' w'' hq => ?_
        cases e with
        | goto k =>
          obtain ⟨ρ'', hr'', hq⟩ := hq
          simp only [gotoE] at hq
          cases hh : Nat.beq k l with
          | true =>
            rw [hh] at hq
            exact ⟨Nat.eq_of_beq_eq_true hh, ⟨ρ'', hr'', hq.1⟩, by rw [hρ hr'', hρ hr']; exact hq.2⟩
          | false => rw [hh] at hq; exact hq.elim
        | panic ch => exact hq
        | _ => exact hq
      | _ => exact h.elim
    | _ => exact h.elim
  | _ => exact ⟨fun Q ρ a w _ _ h => h.elim, fun l b h => by cases h⟩

theorem codeP_sound {P : Program} {X : Pan} {N : Nat} (hm : P.follows .mixedOrders = true) (c : Code) (Q : Exit → Env → World → Prop) (ρ : Env) (a : Act) (w : World) (hok : codeOk N c = true) (hr : Rel N a ρ) (h : codeP P X c Q ρ w) :
    c.wp P (post X N Q) a w := (codeP_sound' hm c).1 Q ρ a w hok hr h

/-! ### Which slots a piece of code may write -/
def writesOps (ops : List Oper) : List Nat := ops.filterMap (·.dst)

def writes : Code → List Nat
  | .region _ ops _ => writesOps ops.toList
  | .seq a b => writes a ++ writes b
  | .cond _ x y => writes x ++ writes y
  | .block _ b => writes b
  | .loop b => writes b
  | .scope (.seq (.label _) b) => writes b
  | _ => []

def Agree (l : List Nat) (ρ ρ' : Env) : Prop := ∀ n, n ∉ l → ρ' n = ρ n

theorem Agree.refl (l : List Nat) (ρ : Env) : Agree l ρ ρ := fun _ _ => rfl
theorem Agree.trans {l : List Nat} {a b c : Env} (h : Agree l a b) (k : Agree l b c) : Agree l a c := fun n hn => (k n hn).trans (h n hn)
theorem Agree.sub {l l' : List Nat} {a b : Env} (h : Agree l a b) (hs : ∀ n, n ∈ l → n ∈ l') : Agree l' a b := fun n hn => h n (fun hm => hn (hs n hm))
theorem agree_upd {l : List Nat} (ρ : Env) {d : Option Tmp} (v : Value) (h : ∀ t, d = some t → t ∈ l) : Agree l ρ (upd ρ d v) := by
  intro n hn
  cases d with
  | none => rfl
  | some t =>
    simp only [upd]
    have : Nat.beq n t = false := by
      cases hh : Nat.beq n t with
      | false => rfl
      | true => exact absurd (Nat.eq_of_beq_eq_true hh ▸ h t rfl) hn
    rw [this]; rfl

theorem RUN_mono {P : Program} {X : Pan} {s : Sem Value} {w : World} {K K' : Value → World → Prop} (h : RUN P X s w K) (hk : ∀ v w', K v w' → K' v w') : RUN P X s w K' := by
  unfold RUN at *; split <;> simp_all
theorem RUNU_mono {P : Program} {X : Pan} {s : Sem Unit} {w : World} {K K' : World → Prop} (h : RUNU P X s w K) (hk : ∀ w', K w' → K' w') : RUNU P X s w K' := by
  unfold RUNU at *; split <;> simp_all
theorem RUNN_mono {P : Program} {X : Pan} {s : Sem Next} {w : World} {K K' : Value → World → Prop} (h : RUNN P X s w K) (hk : ∀ v w', K v w' → K' v w') : RUNN P X s w K' := by
  unfold RUNN at *
  split at h
  · exact hk _ _ h
  · exact hk _ _ h
  · exact h.mono fun e w'' he => by cases e <;> first | exact hk _ _ he | exact he
  · exact h.mono fun v w'' hv => hk _ _ hv
  · exact h
  · exact h.elim
theorem CALLV_mono {P : Program} {X : Pan} {f : Value} {args : List Value} {w : World} {K K' : Value → World → Prop} (h : CALLV P X f args w K) (hk : ∀ v w', K v w' → K' v w') : CALLV P X f args w K' := by
  unfold CALLV at *
  split at h
  · unfold CALL at *; exact RUNN_mono h hk
  · exact h.elim
theorem PICK_mono {c a b : Value} {K K' : Value → Prop} (h : PICK c a b K) (hk : ∀ v, K v → K' v) : PICK c a b K' := by
  unfold PICK at *
  split at h
  · exact hk _ h
  · exact h.elim
theorem NILC_mono {c : Value} {K K' : Value → Prop} (h : NILC c K) (hk : ∀ v, K v → K' v) : NILC c K' := by
  unfold NILC at *
  split at h <;> first | exact h.elim | exact hk _ h
theorem SPLITF_mono {v : Value} {F F' : Bool → Prop} (h : SPLITF v F) (hk : ∀ b, F b → F' b) : SPLITF v F' := by
  obtain ⟨b, rfl, hb⟩ := SPLITF_elim h
  cases b <;> exact hk _ hb
theorem GOK_mono {g : Value} {want : Bool} {A B A' B' : Prop} (h : GOK g want A B) (ha : A → A') (hb : B → B') : GOK g want A' B' := by
  unfold GOK at *
  split at h
  · exact ha h
  · exact ha h
  · exact hb h
theorem opP_mono {P : Program} {X : Pan} {op : Op} {ty : TypeId} {e : Operand → Value} {w : World} {K K' : Value → World → Prop} (h : opP P X op ty e w K) (hk : ∀ v w', K v w' → K' v w') : opP P X op ty e w K' := by
  cases op with
  | move x => exact hk _ _ h
  | assign x => exact hk _ _ h
  | pick c a b => exact PICK_mono (K := fun v => K v w) h fun v hv => hk _ _ hv
  | nilCheck x => exact NILC_mono (K := fun v => K v w) h fun v hv => hk _ _ hv
  | box t x => exact RUN_mono (P := P) (X := X) (s := Instr.box t (e x)) h hk
  | makeFunc fn f c => exact RUN_mono (P := P) (X := X) (s := Instr.makeFunc fn (f.toList.map e).toArray (c.toList.map e).toArray) h hk
  | store t a x => exact RUNU_mono h fun w' hw => hk _ _ hw
  | mapUpdate t a x y => exact RUNU_mono h fun w' hw => hk _ _ hw
  | insert t a x y => exact RUNU_mono h fun w' hw => hk _ _ hw
  | entryStore t a x y => exact RUNU_mono h fun w' hw => hk _ _ hw
  | call c =>
    obtain ⟨callee, args, argTypes⟩ := c
    cases callee with
    | value f => exact CALLV_mono h hk
    | invoke r m => exact h
    | builtin b => cases b <;> first | exact RUN_mono h hk | exact (h : False).elim
  | _ => first | exact RUN_mono h hk | exact (h : False).elim

theorem CALLY_mono {P : Program} {X : Pan} {f : Value} {args : List Value} {w : World} {K K' : Value → World → Prop} (h : CALLY P X f args w K) (hk : ∀ v w', K v w' → K' v w') : CALLY P X f args w K' := by
  unfold CALLY at *
  split at h
  · unfold CALL at *; exact RUNN_mono h hk
  · obtain ⟨fn, tmps, assign, body, hrun, hr⟩ := h
    exact ⟨fn, tmps, assign, body, hrun, hr.mono fun e w' he => by cases e <;> first | exact hk _ _ he | exact he⟩
  · exact h.elim
theorem opQ_mono {P : Program} {X : Pan} {op : Op} {ty : TypeId} {e : Operand → Value} {w : World} {K K' : Value → World → Prop} (h : opQ P X op ty e w K) (hk : ∀ v w', K v w' → K' v w') : opQ P X op ty e w K' := by
  unfold opQ at *
  split at h
  · exact CALLY_mono h hk
  · exact opP_mono h hk

theorem readP_mono {P : Program} {op : Op} {ty : TypeId} {e : Operand → Value} {w : World} {K K' : Value → Option (World → Prop) → Prop} (h : readP P op ty e w K) (hk : ∀ v f, K v f → K' v f) : readP P op ty e w K' := by
  have k1 : ∀ {s : Sem Value}, (PUR P s fun v => K v none) → PUR P s fun v => K' v none := fun h => let ⟨v, hv, h⟩ := PUR_elim h; PUR_intro v hv (hk _ _ h)
  have k2 : ∀ {s : Sem Value}, (LD P s w fun v => K v (some fun w' => s.run P w' = .ok v w')) → LD P s w fun v => K' v (some fun w' => s.run P w' = .ok v w') := fun h => let ⟨v, hv, h⟩ := LD_elim h; LD_intro v hv (hk _ _ h)
  cases op with
  | move x => exact hk _ _ h
  | assign x => exact hk _ _ h
  | pick c a b => exact PICK_mono (K := fun v => K v none) h fun v hv => hk _ _ hv
  | nilCheck x => exact NILC_mono (K := fun v => K v none) h fun v hv => hk _ _ hv
  | call c =>
    obtain ⟨callee, args, argTypes⟩ := c
    cases callee with
    | value f => exact h.elim
    | invoke r m => exact h.elim
    | builtin b => cases b <;> first | exact k2 h | exact h.elim
  | _ => first | exact k1 h | exact k2 h | exact (h : False).elim

theorem opsP_mono {P : Program} {X : Pan} {ops : Array Oper} {l : List Nat} {K K' : Env → World → Prop} : ∀ (os : List Oper) (k : Nat) (ρ : Env) (w : World), (∀ o ∈ os, ∀ t, o.dst = some t → t ∈ l) →
    opsP P X ops k os ρ w K → (∀ ρ' w', Agree l ρ ρ' → K ρ' w' → K' ρ' w') → opsP P X ops k os ρ w K' := by
  intro os
  induction os with
  | nil => intro k ρ w _ h hk; exact hk _ _ (.refl _ _) h
  | cons o os ih =>
    intro k ρ w hin h hk
    have ho := hin o (by simp)
    have hos : ∀ o ∈ os, ∀ t, o.dst = some t → t ∈ l := fun o h => hin o (by simp [h])
    have step : ∀ v w', opsP P X ops (k + 1) os (upd ρ o.dst v) w' K → opsP P X ops (k + 1) os (upd ρ o.dst v) w' K' := fun v w' hh =>
      ih _ _ _ hos hh fun ρ' w' ha hq => hk _ _ ((agree_upd ρ v ho).trans ha) hq
    have run : (opQ P X o.op o.type (ev ρ) w fun v w' => match isGuard ops k with
        | true => SPLITF v fun b => opsP P X ops (k + 1) os (upd ρ o.dst (.bool b)) w' K
        | false => opsP P X ops (k + 1) os (upd ρ o.dst v) w' K) → (opQ P X o.op o.type (ev ρ) w fun v w' => match isGuard ops k with
        | true => SPLITF v fun b => opsP P X ops (k + 1) os (upd ρ o.dst (.bool b)) w' K'
        | false => opsP P X ops (k + 1) os (upd ρ o.dst v) w' K') := fun hh => opQ_mono hh fun v w' hv => by
      split at hv
      · exact SPLITF_mono hv fun b hb => step _ _ hb
      · exact step _ _ hv
    unfold opsP at h ⊢
    cases hg : o.guard with
    | none => rw [hg] at h; exact run h
    | some g => rw [hg] at h; exact GOK_mono h run (step _ _)

theorem HOLDS_mono : ∀ {Γ : Facts} {w : World} {B B' : Prop}, HOLDS Γ w B → (B → B') → HOLDS Γ w B'
  | [], _, _, _, h, hb => hb h
  | _ :: _, _, _, _, h, hb => ⟨h.1, HOLDS_mono h.2 hb⟩

theorem ALLC_mono : ∀ {l : List Nat} {f g : Nat → Prop}, ALLC l f → (∀ i, f i → g i) → ALLC l g
  | [], _, _, _, _ => trivial
  | [_], _, _, h, hk => hk _ h
  | _ :: _ :: _, _, _, h, hk => ⟨hk _ h.1, ALLC_mono h.2 hk⟩

theorem drawP_mono {P : Program} {X : Pan} {ops : Array Oper} {l : List Nat} {K K' : Env → World → Prop} (hin : ∀ o ∈ ops.toList, ∀ t, o.dst = some t → t ∈ l) : ∀ (n : Nat) (L : Array Bool) (Γ : Facts) (ρ : Env) (w : World),
    drawP P X ops n L Γ ρ w K → (∀ ρ' w', Agree l ρ ρ' → K ρ' w' → K' ρ' w') → drawP P X ops n L Γ ρ w K' := by
  intro n
  induction n with
  | zero =>
    intro L Γ ρ w h hk
    unfold drawP at h ⊢
    split at h
    · exact hk _ _ (.refl _ _) h
    · exact h.elim
  | succ n ih =>
    intro L Γ ρ w h hk
    have step : ∀ {i : Nat} {o : Oper}, ops.toList[i]? = some o → ∀ L Γ v w', drawP P X ops n L Γ (upd ρ o.dst v) w' K → drawP P X ops n L Γ (upd ρ o.dst v) w' K' := fun ho L Γ v w' hh =>
      ih _ _ _ _ hh fun ρ' w' ha hq => hk _ _ ((agree_upd ρ v (hin _ (List.mem_of_getElem? ho))).trans ha) hq
    unfold drawP at h ⊢
    split at h
    · rename_i i hfind
      cases ho : ops.toList[i]? with
      | none => rw [ho] at h; exact h.elim
      | some o =>
        rw [ho] at h
        simp only at h ⊢
        have run : (readP P o.op o.type (ev ρ) w fun v f => match isGuard ops i with
            | true => SPLITF v fun b => drawP P X ops n (L.setIfInBounds i true) (addF i f Γ) (upd ρ o.dst (.bool b)) w K
            | false => drawP P X ops n (L.setIfInBounds i true) (addF i f Γ) (upd ρ o.dst v) w K) → (readP P o.op o.type (ev ρ) w fun v f => match isGuard ops i with
            | true => SPLITF v fun b => drawP P X ops n (L.setIfInBounds i true) (addF i f Γ) (upd ρ o.dst (.bool b)) w K'
            | false => drawP P X ops n (L.setIfInBounds i true) (addF i f Γ) (upd ρ o.dst v) w K') := fun hh => readP_mono hh fun v f hv => by
          split at hv
          · exact SPLITF_mono hv fun b hb => step ho _ _ _ _ hb
          · exact step ho _ _ _ _ hv
        cases hg : o.guard with
        | none => rw [hg] at h; exact run h
        | some g => rw [hg] at h; exact GOK_mono h run (step ho _ _ _ _)
    · split at h
      · exact hk _ _ (.refl _ _) h
      · refine ALLC_mono h fun i hi => ?_
        cases ho : ops.toList[i]? with
        | none => rw [ho] at hi; exact hi.elim
        | some o =>
          rw [ho] at hi
          simp only at hi ⊢
          have run : (opP P X o.op o.type (ev ρ) w fun v w' =>
            HOLDS (drop ops i Γ) w' (match isGuard ops i with
              | true => SPLITF v fun b => drawP P X ops n (L.setIfInBounds i true) (drop ops i Γ) (upd ρ o.dst (.bool b)) w' K
              | false => drawP P X ops n (L.setIfInBounds i true) (drop ops i Γ) (upd ρ o.dst v) w' K)) → (opP P X o.op o.type (ev ρ) w fun v w' =>
            HOLDS (drop ops i Γ) w' (match isGuard ops i with
              | true => SPLITF v fun b => drawP P X ops n (L.setIfInBounds i true) (drop ops i Γ) (upd ρ o.dst (.bool b)) w' K'
              | false => drawP P X ops n (L.setIfInBounds i true) (drop ops i Γ) (upd ρ o.dst v) w' K')) := fun hh => opP_mono hh fun v w' hv => HOLDS_mono hv fun hv => by
            split at hv
            · exact SPLITF_mono hv fun b hb => step ho _ _ _ _ hb
            · exact step ho _ _ _ _ hv
          cases hg : o.guard with
          | none => rw [hg] at hi; exact run hi
          | some g => rw [hg] at hi; exact GOK_mono hi run (step ho _ _ _ _)

def Mon (P : Program) (X : Pan) (c : Code) : Prop := ∀ (Q Q' : Exit → Env → World → Prop) (ρ : Env) (w : World), codeP P X c Q ρ w → (∀ e ρ' w', Agree (writes c) ρ ρ' → Q e ρ' w' → Q' e ρ' w') → codeP P X c Q' ρ w

theorem codeP_mono' {P : Program} {X : Pan} : ∀ (c : Code), Mon P X c ∧ ∀ l b, c = .seq (.label l) b → Mon P X b := by
  intro c
  induction c with
  | skip =>
    refine ⟨?_, fun l b h => by cases h⟩
    intro Q Q' ρ w h hk; exact hk _ _ _ (.refl _ _) h
  | label l =>
    refine ⟨?_, fun l b h => by cases h⟩
    intro Q Q' ρ w h hk; exact hk _ _ _ (.refl _ _) h
  | exit id =>
    refine ⟨?_, fun l b h => by cases h⟩
    intro Q Q' ρ w h hk; exact hk _ _ _ (.refl _ _) h
  | ret =>
    refine ⟨?_, fun l b h => by cases h⟩
    intro Q Q' ρ w h hk; exact hk _ _ _ (.refl _ _) h
  | region id ops d =>
    refine ⟨?_, fun l b h => by cases h⟩
    intro Q Q' ρ w h hk
    have hin : ∀ o ∈ ops.toList, ∀ t, o.dst = some t → t ∈ writes (.region id ops d) := fun o ho t ht => List.mem_filterMap.2 ⟨o, ho, ht⟩
    cases d with
    | false => exact opsP_mono _ _ _ _ hin h fun ρ' w' ha hq => hk _ _ _ ha hq
    | true => exact drawP_mono hin _ _ _ _ _ h fun ρ' w' ha hq => hk _ _ _ ha hq
  | seq x y ihx ihy =>
    refine ⟨?_, fun l b h => by injection h with h1 h2; subst h2; exact ihy.1⟩
    intro Q Q' ρ w h hk
    refine ihx.1 _ _ _ _ h fun e ρ' w' ha hq => ?_
    have hl : Agree (writes (.seq x y)) ρ ρ' := ha.sub fun n hn => List.mem_append_left _ hn
    cases e with
    | normal => exact ihy.1 _ _ _ _ hq fun e ρ'' w'' hb hq => hk _ _ _ (hl.trans (hb.sub fun n hn => List.mem_append_right _ hn)) hq
    | _ => exact hk _ _ _ hl hq
  | cond c x y ihx ihy =>
    refine ⟨?_, fun l b h => by cases h⟩
    intro Q Q' ρ w h hk
    refine SPLITF_mono h fun b hb => ?_
    cases b with
    | true => exact ihx.1 _ _ _ _ hb fun e ρ' w' ha hq => hk _ _ _ (ha.sub fun n hn => List.mem_append_left _ hn) hq
    | false => exact ihy.1 _ _ _ _ hb fun e ρ' w' ha hq => hk _ _ _ (ha.sub fun n hn => List.mem_append_right _ hn) hq
  | block id b ih =>
    refine ⟨?_, fun l b h => by cases h⟩
    intro Q Q' ρ w h hk
    refine ih.1 _ _ _ _ h fun e ρ' w' ha hq => ?_
    cases e with
    | exit k =>
      simp only [blockE] at hq ⊢
      cases hh : Nat.beq k id <;> rw [hh] at hq <;> exact hk _ _ _ ha hq
    | _ => exact hk _ _ _ ha hq
  | loop b ih =>
    refine ⟨?_, fun l b h => by cases h⟩
    intro Q Q' ρ w h hk
    obtain ⟨I, μ, h0, hr⟩ := h
    refine ⟨fun ρ' w' => I ρ' w' ∧ Agree (writes b) ρ ρ', μ, ⟨h0, .refl _ _⟩, fun ρ' w' ⟨hI, hA⟩ => ?_⟩
    refine ih.1 _ _ _ _ (hr ρ' w' hI) fun e ρ'' w'' ha hq => ?_
    cases e with
    | normal => exact ⟨⟨hq.1, hA.trans ha⟩, hq.2⟩
    | _ => exact hk _ _ _ (hA.trans ha) hq
  | goto l => exact ⟨fun Q Q' ρ w h hk => hk _ _ _ (.refl _ _) h, fun l b h => by cases h⟩
  | scope body ih =>
    refine ⟨fun Q Q' ρ w h hk => ?_, fun l b h => by cases h⟩
    cases body with
    | seq x b =>
      cases x with
      | label l =>
        obtain ⟨I, μ, h0, hr⟩ := h
        refine ⟨fun ρ' w' => I ρ' w' ∧ Agree (writes b) ρ ρ', μ, ⟨h0, .refl _ _⟩, fun ρ' w' ⟨hI, hA⟩ => ?_⟩
        refine ih.2 l b rfl _ _ _ _ (hr ρ' w' hI) fun e ρ'' w'' ha hq => ?_
        cases e with
        | goto k =>
          simp only [gotoE] at hq ⊢
          cases hh : Nat.beq k l with
          | true => rw [hh] at hq; exact ⟨⟨hq.1, hA.trans ha⟩, hq.2⟩
          | false => rw [hh] at hq; exact hq
        | _ => exact hk _ _ _ (hA.trans ha) hq
      | _ => exact h.elim
    | _ => exact h.elim
  | _ => exact ⟨fun Q Q' ρ w h _ => h.elim, fun l b h => by cases h⟩

theorem codeP_mono {P : Program} {X : Pan} (c : Code) (Q Q' : Exit → Env → World → Prop) (ρ : Env) (w : World) (h : codeP P X c Q ρ w) (hk : ∀ e ρ' w', Agree (writes c) ρ ρ' → Q e ρ' w' → Q' e ρ' w') : codeP P X c Q' ρ w :=
  (codeP_mono' c).1 Q Q' ρ w h hk

/-! ### What the printed texts go by -/
def look (l : List (Nat × (Env → World → Prop))) (id : Nat) : Env → World → Prop :=
  match l with
  | [] => fun _ _ => False
  | (k, q) :: l => cond (Nat.beq k id) q (look l id)

/-- The posts by exit: behind the end; at a return; at each block that may be left. -/
def QX (n r : Env → World → Prop) (l : List (Nat × (Env → World → Prop))) : Exit → Env → World → Prop
  | .normal => n
  | .ret => r
  | .exit id => look l (2 * id)
  | .goto k => look l (2 * k + 1)
  | _ => fun _ _ => False

theorem beq_ne {a b : Nat} (h : a ≠ b) : Nat.beq a b = false := by
  cases h3 : Nat.beq a b with
  | false => rfl
  | true => exact absurd (Nat.eq_of_beq_eq_true h3) h

theorem look_none : ∀ (l : List (Nat × (Env → World → Prop))) (id : Nat), (∀ e ∈ l, e.1 ≠ id) → look l id = fun _ _ => False
  | [], _, _ => rfl
  | e :: l, id, h => by
    unfold look
    simp only [beq_ne (h e (by simp)), cond_false]
    exact look_none l id fun e he => h e (by simp [he])

theorem evenKeys {l : List (Nat × (Env → World → Prop))} (h : (l.all fun e => Nat.beq (e.1 % 2) 0) = true) : ∀ e ∈ l, e.1 % 2 = 0 := fun e he => Nat.eq_of_beq_eq_true (List.all_eq_true.1 h e he)

/-- A labelled scope: label k is exit number '2 * k + 1'; block k is exit number '2 * k'. -/
theorem scopeQ {P : Program} {X : Pan} {ρ : Env} {w : World} {n r : Env → World → Prop} {l : List (Nat × (Env → World → Prop))} {k : Nat} {b : Code} (I : Env → World → Prop) (μ : Env → World → Nat) (h0 : I ρ w)
    (hl : ∀ e ∈ l, e.1 % 2 = 0)
    (hr : ∀ ρ' w', Agree (writes b) ρ ρ' → I ρ' w' → codeP P X b (QX n r ((2 * k + 1, fun ρ'' w'' => I ρ'' w'' ∧ μ ρ'' w'' < μ ρ' w') :: l)) ρ' w') : codeP P X (.scope (.seq (.label k) b)) (QX n r l) ρ w := by
  refine ⟨fun ρ' w' => I ρ' w' ∧ Agree (writes b) ρ ρ', μ, ⟨h0, .refl _ _⟩, fun ρ' w' ⟨hI, hA⟩ => ?_⟩
  refine codeP_mono _ _ _ _ _ (hr ρ' w' hA hI) fun e ρ'' w'' ha hq => ?_
  cases e with
  | goto j =>
    simp only [QX, look, gotoE] at hq ⊢
    by_cases hj : j = k
    · subst hj
      have h1 : Nat.beq (2 * j + 1) (2 * j + 1) = true := by simp
      have h2 : Nat.beq j j = true := by simp
      rw [h1] at hq
      rw [h2]
      exact ⟨⟨hq.1, hA.trans ha⟩, hq.2⟩
    · rw [beq_ne (show 2 * k + 1 ≠ 2 * j + 1 by omega)] at hq
      simp only [cond_false] at hq
      rw [look_none l _ (fun e he => by have := hl e he; omega)] at hq
      exact hq.elim
  | exit id =>
    simp only [QX, look] at hq ⊢
    rw [beq_ne (show 2 * k + 1 ≠ 2 * id by omega)] at hq
    exact hq
  | _ => exact hq

section
variable {P : Program} {X : Pan} {ρ : Env} {w : World} {n r : Env → World → Prop} {l : List (Nat × (Env → World → Prop))}

theorem seqQ {x y : Code} (K : Env → World → Prop) (h : codeP P X x (QX K r l) ρ w) (hy : ∀ ρ w, K ρ w → codeP P X y (QX n r l) ρ w) : codeP P X (.seq x y) (QX n r l) ρ w := by
  unfold codeP
  exact codeP_mono x _ _ _ _ h fun e ρ' w' _ hq => by cases e <;> first | exact hy _ _ hq | exact hq

theorem blockQ {id : Nat} {b : Code} (h : codeP P X b (QX n r ((2 * id, n) :: l)) ρ w) : codeP P X (.block id b) (QX n r l) ρ w := by
  unfold codeP
  refine codeP_mono b _ _ _ _ h fun e ρ' w' _ hq => ?_
  cases e with
  | exit k =>
    simp only [QX, look, blockE] at hq ⊢
    by_cases hk : k = id
    · subst hk
      have h1 : Nat.beq (2 * k) (2 * k) = true := by simp
      have h2 : Nat.beq k k = true := by simp
      rw [h1] at hq
      rw [h2]
      exact hq
    · rw [beq_ne (show 2 * id ≠ 2 * k by omega)] at hq
      rw [beq_ne hk]
      exact hq
  | goto k =>
    simp only [QX, look] at hq
    rw [beq_ne (show 2 * id ≠ 2 * k + 1 by omega)] at hq
    exact hq
  | _ => exact hq

theorem loopQ {b : Code} (I : Env → World → Prop) (μ : Env → World → Nat) (h0 : I ρ w)
    (hr : ∀ ρ' w', Agree (writes b) ρ ρ' → I ρ' w' → codeP P X b (QX (fun ρ'' w'' => I ρ'' w'' ∧ μ ρ'' w'' < μ ρ' w') r l) ρ' w') : codeP P X (.loop b) (QX n r l) ρ w := by
  refine ⟨fun ρ' w' => I ρ' w' ∧ Agree (writes b) ρ ρ', μ, ⟨h0, .refl _ _⟩, fun ρ' w' ⟨hI, hA⟩ => ?_⟩
  refine codeP_mono _ _ _ _ _ (hr ρ' w' hA hI) fun e ρ'' w'' ha hq => ?_
  cases e with
  | normal => exact ⟨⟨hq.1, hA.trans ha⟩, hq.2⟩
  | _ => exact hq

theorem condQ {c : Operand} {x y : Code} {b : Bool} (hb : ev ρ c = .bool b) (hx : b = true → codeP P X x (QX n r l) ρ w) (hy : b = false → codeP P X y (QX n r l) ρ w) : codeP P X (.cond c x y) (QX n r l) ρ w := by
  unfold codeP
  rw [hb]
  cases b with
  | true => exact hx rfl
  | false => exact hy rfl
end

theorem condQ' {P : Program} {X : Pan} {ρ : Env} {w : World} {n r : Env → World → Prop} {l : List (Nat × (Env → World → Prop))} {c : Operand} {x y : Code} {A B : Prop} (h : SPLITF (ev ρ c) fun b => cond b A B)
    (hx : A → codeP P X x (QX n r l) ρ w) (hy : B → codeP P X y (QX n r l) ρ w) : codeP P X (.cond c x y) (QX n r l) ρ w := by
  obtain ⟨b, hb, hq⟩ := SPLITF_elim h
  refine condQ hb (fun h => hx (by rw [h] at hq; exact hq)) (fun h => hy (by rw [h] at hq; exact hq))

/-! ### Pieces of code by their place -/
def bodyOf (f : Func) : Code := match f.body with | some c => c | none => .skip
def fstC : Code → Code | .seq a _ => a | c => c
def sndC : Code → Code | .seq _ b => b | c => c
def thnC : Code → Code | .cond _ a _ => a | c => c
def elsC : Code → Code | .cond _ _ b => b | c => c
def blkC : Code → Code | .block _ a => a | c => c
def scopeC : Code → Code | .scope a => a | c => c
def loopC : Code → Code | .loop a => a | c => c
/-- The first n + 1 statements. -/
def preC : Nat → Code → Code
  | 0, .seq a _ => a
  | n + 1, .seq a b => .seq a (preC n b)
  | _, c => c
/-- What stands behind the first n statements. -/
def dropC : Nat → Code → Code
  | 0, c => c
  | n + 1, .seq _ b => dropC n b
  | _, c => c
def appC : Nat → Code → Code → Code
  | n + 1, .seq a b, d => .seq a (appC n b d)
  | _, c, d => .seq c d

theorem appQ {P : Program} {X : Pan} {n r : Env → World → Prop} {l : List (Nat × (Env → World → Prop))} {d : Code} (K : Env → World → Prop) : ∀ (k : Nat) {c : Code} {ρ : Env} {w : World}, codeP P X c (QX K r l) ρ w →
    (∀ ρ w, K ρ w → codeP P X d (QX n r l) ρ w) → codeP P X (appC k c d) (QX n r l) ρ w := by
  intro k
  induction k with
  | zero => intro c ρ w h hd; unfold appC; exact seqQ K h hd
  | succ k ih =>
    intro c ρ w h hd
    cases c with
    | seq a b =>
      unfold appC codeP
      unfold codeP at h
      exact codeP_mono a _ _ _ _ h fun e ρ' w' _ hq => by cases e <;> first | exact ih hq hd | exact hq
    | _ => exact seqQ K h hd

theorem notElem {n : Nat} {l : List Nat} (h : l.elem n = false) : n ∉ l := fun hm => by
  rw [List.elem_eq_true_of_mem hm] at h; cases h

theorem Agree.at {l : List Nat} {ρ ρ' : Env} (h : Agree l ρ ρ') (n : Nat) (hn : l.elem n = false) : ρ' n = ρ n := h n (notElem hn)

def pan (R : Ending → World → Prop) : Pan := fun ch w => R (.panicked ch) w

/-- A call of function 'f' comes to its body. -/
def Enters (P : Program) (f : FuncId) : Prop := ∀ args w, (callFunc f args).run P w = .ok (.enter f args) w

/-- From the slots to the call. -/
theorem calls_of {P : Program} {f : FuncId} {fn : Func} {c : Code} (hm : P.follows .mixedOrders = true) (hf : P.funcs[f]? = some fn) (hb : fn.body = some c) (hok : codeOk fn.ntmps c = true)
    {args : List Value} (hargs : args.length ≤ fn.ntmps) {w : World} {R : Ending → World → Prop} (K : Env → World → Prop)
    (hres : ∀ a ρ w, Rel fn.ntmps a ρ → K ρ w → ∃ v, (results fn a.tmps).run P w = .ok v w ∧ R (.returned v) w)
    (h : codeP P (pan R) c (QX K K []) (envOf args) w) :
    Calls P f args.toArray w R := by
  refine calls_of_wp hf hb (wp_mono (codeP_sound hm c _ _ _ w hok ?_ h) fun e a w' hq => ?_)
  · refine ⟨by simp; omega, fun n => ?_, rfl⟩
    simp only [envOf, Array.getD_eq_getD_getElem?, List.getD_eq_getElem?_getD, Array.getElem?_append, List.size_toArray, List.getElem?_toArray, Array.getElem?_replicate]
    by_cases hn : n < args.length
    · rw [if_pos hn]
    · rw [if_neg hn, List.getElem?_eq_none (by omega)]
      split <;> rfl
  · cases e with
    | panic ch => exact hq
    | normal =>
      obtain ⟨ρ, hr, hK⟩ := hq
      exact ⟨hr.defers, hres _ _ _ hr hK⟩
    | ret =>
      obtain ⟨ρ, hr, hK⟩ := hq
      exact ⟨hr.defers, hres _ _ _ hr hK⟩
    | exit id => obtain ⟨ρ, hr, hq⟩ := hq; exact hq.elim
    | goto id => obtain ⟨ρ, hr, hq⟩ := hq; exact hq.elim
    | outgrown => obtain ⟨ρ, hr, hq⟩ := hq; exact hq.elim

theorem load_at {P : Program} {tmps : Array Value} {a t : Nat} {w : World} {v : Value} (h : (Instr.loadAt t (tmps.getD a undef)).run P w = .ok v w) :
    ∃ p, tmps[a]?.getD undef = .pointer (some p) ∧ (loadVar t p).run P w = .ok v w := by
  rw [Array.getD_eq_getD_getElem?] at h
  unfold Instr.loadAt Instr.sureAddr at h
  cases hx : tmps[a]?.getD undef with
  | pointer p =>
    rw [hx] at h
    cases p with
    | none => simp [Sem.run_bind, stuck] at h
    | some p => exact ⟨p, rfl, by simpa [Sem.run_bind] using h⟩
  | _ => rw [hx] at h; simp [Sem.run_bind, stuck] at h

section
variable {P : Program} {f : FuncId} {fn : Func} {c : Code} (hm : P.follows .mixedOrders = true) (hf : P.funcs[f]? = some fn) (hb : fn.body = some c) (hok : codeOk fn.ntmps c = true)
  {args : List Value} (hargs : args.length ≤ fn.ntmps) {w : World} {R : Ending → World → Prop}
  include hm hf hb hok hargs

theorem calls_of_0 (hr : fn.results = #[]) (h : codeP P (pan R) c (QX (fun _ w => R (.returned (.tuple #[])) w) (fun _ w => R (.returned (.tuple #[])) w) []) (envOf args) w) : Calls P f args.toArray w R :=
  calls_of hm hf hb hok hargs _ (fun _ _ _ _ hR => ⟨_, results_none hr _ _ _, hR⟩) h
theorem calls_of_t {t : Nat} (hr : fn.results = #[.tmp t]) (h : codeP P (pan R) c (QX (fun ρ w => R (.returned (ρ t)) w) (fun ρ w => R (.returned (ρ t)) w) []) (envOf args) w) : Calls P f args.toArray w R :=
  calls_of hm hf hb hok hargs _ (fun a ρ w hrel hR => ⟨_, results_tmp hr _ _ _, by rw [hrel.get]; exact hR⟩) h
theorem calls_of_tt {t u : Nat} (hr : fn.results = #[.tmp t, .tmp u]) (h : codeP P (pan R) c (QX (fun ρ w => R (.returned (.tuple #[ρ t, ρ u])) w) (fun ρ w => R (.returned (.tuple #[ρ t, ρ u])) w) []) (envOf args) w) : Calls P f args.toArray w R :=
  calls_of hm hf hb hok hargs _ (fun a ρ w hrel hR => ⟨_, results_tmp2 hr _ _ _, by rw [hrel.get, hrel.get]; exact hR⟩) h
theorem calls_of_tttt {t u v x : Nat} (hr : fn.results = #[.tmp t, .tmp u, .tmp v, .tmp x]) (h : codeP P (pan R) c (QX (fun ρ w => R (.returned (.tuple #[ρ t, ρ u, ρ v, ρ x])) w) (fun ρ w => R (.returned (.tuple #[ρ t, ρ u, ρ v, ρ x])) w) []) (envOf args) w) : Calls P f args.toArray w R :=
  calls_of hm hf hb hok hargs _ (fun a ρ w hrel hR => ⟨.tuple #[ρ t, ρ u, ρ v, ρ x], by simp only [← hrel.get]; simp [results, hr], hR⟩) h

theorem calls_of_c {a t : Nat} (hr : fn.results = #[.cell a t]) (h : codeP P (pan R) c (QX (fun ρ w => LD P (Instr.loadAt t (ρ a)) w fun r0 => R (.returned r0) w) (fun ρ w => LD P (Instr.loadAt t (ρ a)) w fun r0 => R (.returned r0) w) []) (envOf args) w) : Calls P f args.toArray w R :=
  calls_of hm hf hb hok hargs _ (fun a ρ w hrel hR => by
    obtain ⟨v, hv, hR⟩ := LD_elim hR
    rw [← hrel.get] at hv
    obtain ⟨p, hp, k⟩ := load_at hv
    exact ⟨v, by simp [results, hr, asAddr, hp, k], hR⟩) h
theorem calls_of_ct {a0 t0 u1 : Nat} (hr : fn.results = #[.cell a0 t0, .tmp u1]) (h : codeP P (pan R) c (QX (fun ρ w => LD P (Instr.loadAt t0 (ρ a0)) w fun r0 => R (.returned (.tuple #[r0, ρ u1])) w) (fun ρ w => LD P (Instr.loadAt t0 (ρ a0)) w fun r0 => R (.returned (.tuple #[r0, ρ u1])) w) []) (envOf args) w) : Calls P f args.toArray w R :=
  calls_of hm hf hb hok hargs _ (fun a ρ w hrel hR => by
    obtain ⟨r0, h0, hR⟩ := LD_elim hR
    rw [← hrel.get] at h0
    obtain ⟨p0, q0, k0⟩ := load_at h0
    refine ⟨.tuple #[r0, ρ u1], ?_, hR⟩
    simp only [← hrel.get]
    simp [results, hr, asAddr, k0, q0]) h
theorem calls_of_cc {a0 t0 a1 t1 : Nat} (hr : fn.results = #[.cell a0 t0, .cell a1 t1]) (h : codeP P (pan R) c (QX (fun ρ w => LD P (Instr.loadAt t0 (ρ a0)) w fun r0 => LD P (Instr.loadAt t1 (ρ a1)) w fun r1 => R (.returned (.tuple #[r0, r1])) w) (fun ρ w => LD P (Instr.loadAt t0 (ρ a0)) w fun r0 => LD P (Instr.loadAt t1 (ρ a1)) w fun r1 => R (.returned (.tuple #[r0, r1])) w) []) (envOf args) w) : Calls P f args.toArray w R :=
  calls_of hm hf hb hok hargs _ (fun a ρ w hrel hR => by
    obtain ⟨r0, h0, hR⟩ := LD_elim hR
    rw [← hrel.get] at h0
    obtain ⟨p0, q0, k0⟩ := load_at h0
    obtain ⟨r1, h1, hR⟩ := LD_elim hR
    rw [← hrel.get] at h1
    obtain ⟨p1, q1, k1⟩ := load_at h1
    refine ⟨.tuple #[r0, r1], ?_, hR⟩
    simp [results, hr, asAddr, k0, k1, q0, q1]) h
theorem calls_of_tc {u0 a1 t1 : Nat} (hr : fn.results = #[.tmp u0, .cell a1 t1]) (h : codeP P (pan R) c (QX (fun ρ w => LD P (Instr.loadAt t1 (ρ a1)) w fun r1 => R (.returned (.tuple #[ρ u0, r1])) w) (fun ρ w => LD P (Instr.loadAt t1 (ρ a1)) w fun r1 => R (.returned (.tuple #[ρ u0, r1])) w) []) (envOf args) w) : Calls P f args.toArray w R :=
  calls_of hm hf hb hok hargs _ (fun a ρ w hrel hR => by
    obtain ⟨r1, h1, hR⟩ := LD_elim hR
    rw [← hrel.get] at h1
    obtain ⟨p1, q1, k1⟩ := load_at h1
    refine ⟨.tuple #[ρ u0, r1], ?_, hR⟩
    simp only [← hrel.get]
    simp [results, hr, asAddr, k1, q1]) h
theorem calls_of_ctt {a0 t0 u1 u2 : Nat} (hr : fn.results = #[.cell a0 t0, .tmp u1, .tmp u2]) (h : codeP P (pan R) c (QX (fun ρ w => LD P (Instr.loadAt t0 (ρ a0)) w fun r0 => R (.returned (.tuple #[r0, ρ u1, ρ u2])) w) (fun ρ w => LD P (Instr.loadAt t0 (ρ a0)) w fun r0 => R (.returned (.tuple #[r0, ρ u1, ρ u2])) w) []) (envOf args) w) : Calls P f args.toArray w R :=
  calls_of hm hf hb hok hargs _ (fun a ρ w hrel hR => by
    obtain ⟨r0, h0, hR⟩ := LD_elim hR
    rw [← hrel.get] at h0
    obtain ⟨p0, q0, k0⟩ := load_at h0
    refine ⟨.tuple #[r0, ρ u1, ρ u2], ?_, hR⟩
    simp only [← hrel.get]
    simp [results, hr, asAddr, k0, q0]) h
end
end Go.Px
