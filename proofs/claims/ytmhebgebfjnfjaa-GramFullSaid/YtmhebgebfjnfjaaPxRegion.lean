/-
  Regions: the listed order, and regions that draw their order (reads first; what was read stays true behind each operation that is not ordered behind it).
-/
import Derived.Test.YtmhebgebfjnfjaaPxBase
import Derived.Still
import Derived.Scope
namespace Go.Px

section
variable {P : Program} {ops : Array Oper}

def gval (ops : Array Oper) (ρ : Env) (j : Nat) : Value :=
  match (ops.toList[j]?).bind (·.dst) with
  | some d => ρ d
  | none => undef

def isGuard (ops : Array Oper) (k : Nat) : Bool := ops.toList.any fun o => match o.guard with | some (j, _) => Nat.beq j k | none => false

def GOK (g : Value) (want : Bool) (A B : Prop) : Prop :=
  match g, want with
  | .bool true, true => A
  | .bool false, false => A
  | _, _ => B

def dstsIn (N : Nat) (ops : Array Oper) : Bool := ops.toList.all fun o => dstIn N o.dst

theorem yielded_rel {N : Nat} {a : Act} {ρ : Env} (h : Rel N a ρ) (hd : dstsIn N ops = true) (j : Nat) :
    yielded ops a.tmps j = match gval ops ρ j with | .bool b => some b | _ => none := by
  unfold yielded gval
  rw [← Array.getElem?_toList]
  cases ho : ops.toList[j]? with
  | none => rfl
  | some o =>
    cases hdst : o.dst with
    | none => simp only [Option.bind_some, hdst]; rfl
    | some d =>
      simp only [Option.bind_some, hdst]
      have hin : dstIn N (some d) = true := by
        have := List.all_eq_true.1 hd o (List.mem_of_getElem? ho)
        rwa [hdst] at this
      have hlt : d < a.tmps.size := by rw [h.size]; simpa [dstIn, Nat.blt_eq] using hin
      have hg := h.get d
      rw [Array.getD_eq_getD_getElem?, Array.getElem?_eq_getElem hlt] at hg
      rw [Array.getElem?_eq_getElem hlt]
      simp only [Option.getD_some] at hg
      rw [hg]
      cases ρ d <;> rfl

theorem wanted_none {o : Oper} (h : o.guard = none) (y : Nat → Option Bool) : Region.wanted o y = true := by simp [Region.wanted, h]

theorem wanted_some {N : Nat} {a : Act} {ρ : Env} (h : Rel N a ρ) (hd : dstsIn N ops = true) {o : Oper} {j : Nat} {want : Bool} (hg : o.guard = some (j, want)) {A B : Prop}
    (H : GOK (gval ops ρ j) want A B) : (Region.wanted o (yielded ops a.tmps) = true ∧ A) ∨ (Region.wanted o (yielded ops a.tmps) = false ∧ B) := by
  have hw : Region.wanted o (yielded ops a.tmps) = ((match gval ops ρ j with | .bool b => some b | _ => none) == some want) := by
    unfold Region.wanted
    rw [hg]
    simp only []
    rw [yielded_rel h hd]
  rw [hw]
  unfold GOK at H
  clear hw
  generalize gval ops ρ j = g at *
  cases g with
  | bool b => cases b <;> cases want <;> first | exact .inl ⟨rfl, H⟩ | exact .inr ⟨rfl, H⟩
  | _ => exact .inr ⟨rfl, H⟩

/-! ### The listed order -/
def opsP (P : Program) (X : Pan) (ops : Array Oper) : Nat → List Oper → Env → World → (Env → World → Prop) → Prop
  | _, [], ρ, w, K => K ρ w
  | k, o :: rest, ρ, w, K =>
    let run : Prop := opQ P X o.op o.type (ev ρ) w fun v w' =>
      match isGuard ops k with
      | true => SPLITF v fun b => opsP P X ops (k + 1) rest (upd ρ o.dst (.bool b)) w' K
      | false => opsP P X ops (k + 1) rest (upd ρ o.dst v) w' K
    match o.guard with
    | none => run
    | some (j, want) => GOK (gval ops ρ j) want run (opsP P X ops (k + 1) rest (upd ρ o.dst undef) w K)

theorem SPLITF_elim {v : Value} {F : Bool → Prop} (h : SPLITF v F) : ∃ b, v = .bool b ∧ F b := by
  unfold SPLITF SPL at h
  split at h
  · exact ⟨_, rfl, h⟩
  · exact ⟨_, rfl, h⟩
  · exact h.elim

theorem opsP_sound {X : Pan} {N : Nat} {Q : Exit → Act → World → Prop} (hX : ∀ ch a w, a.defers = [] → X ch w → Q (.panic ch) a w) (hd : dstsIn N ops = true) {K : Env → World → Prop} (hK : ∀ a ρ w, Rel N a ρ → K ρ w → Q .normal a w) :
    ∀ (l : List Oper) (k : Nat) (ρ : Env) (a : Act) (w : World), (∀ o ∈ l, dstIn N o.dst = true) → Rel N a ρ → opsP P X ops k l ρ w K → wpListIn Fence.wide 0 P ops Q l a w := by
  intro l
  induction l with
  | nil => intro k ρ a w _ hr h; exact hK _ _ _ hr h
  | cons o rest ih =>
    intro k ρ a w hin hr h
    have hdo := hin o (by simp)
    have hrest : ∀ o ∈ rest, dstIn N o.dst = true := fun o ho => hin o (by simp [ho])
    have run : (opQ P X o.op o.type (ev ρ) w fun v w' => match isGuard ops k with
        | true => SPLITF v fun b => opsP P X ops (k + 1) rest (upd ρ o.dst (.bool b)) w' K
        | false => opsP P X ops (k + 1) rest (upd ρ o.dst v) w' K) → o.wpIn Fence.wide 0 P a w (wpListIn Fence.wide 0 P ops Q rest) Q := fun h => by
      refine ⟨fun _ _ => trivial, ?_⟩
      show o.uponIn Fence.wide 0 P a _ Q ((execOp a.eval o).run P w)
      rw [hr.eval]
      refine opQ_sound h (fun ch w' hx => hX _ _ _ hr.defers hx) fun v w' hv => ?_
      split at hv
      · obtain ⟨b, rfl, hb⟩ := SPLITF_elim hv
        exact ih _ _ _ _ hrest (hr.put hdo _) hb
      · exact ih _ _ _ _ hrest (hr.put hdo _) hv
    unfold opsP at h
    simp only [wpListIn]
    cases hg : o.guard with
    | none =>
      rw [hg] at h
      rw [if_pos (wanted_none hg _)]
      exact run h
    | some g =>
      obtain ⟨j, want⟩ := g
      rw [hg] at h
      rcases wanted_some hr hd hg h with ⟨hw, hA⟩ | ⟨hw, hB⟩
      · rw [if_pos hw]; exact run hA
      · rw [if_neg (by rw [hw]; simp)]
        exact ⟨fun _ _ => trivial, ih _ _ _ _ hrest (hr.put hdo _) hB⟩

/-! ### Which operation waits for which -/
def direct (ops : Array Oper) (j i : Nat) : Bool :=
  match ops.toList[j]? with
  | some o => o.after.toList.any fun e => Region.binds .any e && Nat.beq e.on i
  | none => false

def reach (ops : Array Oper) : Nat → Nat → Nat → Bool
  | 0, _, _ => false
  | n + 1, j, i => direct ops j i || (match ops.toList[j]? with
    | some o => o.after.toList.any fun e => Region.binds .any e && reach ops n e.on i
    | none => false)

def Closed (ops : Array Oper) (L : Array Bool) : Prop := ∀ j i, L.getD j false = true → j < ops.size → direct ops j i = true → L.getD i false = true

theorem ready_direct {L : Array Bool} {j : Nat} (h : j ∈ Region.ready .any ops L) {i : Nat} (hd : direct ops j i = true) : L.getD i false = true := by
  obtain ⟨_, o, ho, hall⟩ := mem_ready.1 h
  unfold direct at hd
  rw [Array.getElem?_toList, ho] at hd
  obtain ⟨e, he, hb⟩ := List.any_eq_true.1 hd
  simp only [Bool.and_eq_true] at hb
  have := hall e (by simpa using he) hb.1
  rwa [Nat.eq_of_beq_eq_true hb.2] at this

theorem getD_lt {L : Array Bool} {i : Nat} (h : L.getD i false = true) : i < L.size := by
  rcases Nat.lt_or_ge i L.size with h' | h'
  · exact h'
  · rw [Array.getD_eq_getD_getElem?, Array.getElem?_eq_none h'] at h; cases h

theorem getD_swap {L : Array Bool} {i : Nat} (h : L.getD i false = true) : L.getD i true = true := by
  have := getD_lt h
  rw [Array.getD_eq_getD_getElem?, Array.getElem?_eq_getElem this] at h ⊢
  exact h

theorem closed_reach {L : Array Bool} (hc : Closed ops L) : ∀ (n j i : Nat), (∀ k, direct ops j k = true → L.getD k false = true) → reach ops n j i = true → L.getD i false = true := by
  intro n
  induction n with
  | zero => intro j i _ h; simp [reach] at h
  | succ n ih =>
    intro j i hj h
    simp only [reach, Bool.or_eq_true] at h
    rcases h with h | h
    · exact hj i h
    · cases ho : ops.toList[j]? with
      | none => rw [ho] at h; cases h
      | some o =>
        rw [ho] at h
        obtain ⟨e, he, hb⟩ := List.any_eq_true.1 h
        simp only [Bool.and_eq_true] at hb
        have hdir : direct ops j e.on = true := by
          unfold direct
          rw [ho]
          exact List.any_eq_true.2 ⟨e, he, by simp [hb.1]⟩
        have hk := hj _ hdir
        refine ih e.on i (fun k hk' => ?_) hb.2
        rcases Nat.lt_or_ge e.on ops.size with hlt | hge
        · exact hc _ _ hk hlt hk'
        · unfold direct at hk'
          rw [List.getElem?_eq_none (by simpa using hge)] at hk'
          cases hk'

theorem ready_reach {L : Array Bool} (hc : Closed ops L) {j i n : Nat} (hj : j ∈ Region.ready .any ops L) (hi : L.getD i true = false) : reach ops n j i = false := by
  cases h : reach ops n j i with
  | false => rfl
  | true =>
    have := getD_swap (closed_reach hc n j i (fun k hk => ready_direct hj hk) h)
    rw [this] at hi
    cases hi

theorem ready_unlisted {L : Array Bool} {j : Nat} (hj : j ∈ Region.ready .any ops L) : L.getD j true = false := (mem_ready.1 hj).1

theorem Closed.set {L : Array Bool} (hc : Closed ops L) {i : Nat} (hi : i ∈ Region.ready .any ops L) : Closed ops (L.setIfInBounds i true) := by
  intro j k hj hlt hd
  by_cases hij : i = j
  · subst hij; exact getD_set_true (ready_direct hi hd)
  · rw [getD_set_ne false hij] at hj
    exact getD_set_true (hc j k hj hlt hd)

theorem closed_none (n : Nat) : Closed ops (Array.replicate n false) := fun j i h _ _ => by
  have := getD_lt h
  simp at this
  simp [this] at h

/-! ### All orders -/
abbrev Facts := List (Nat × (World → Prop))

/-- What is still to be kept behind operation 'i'. -/
def drop (ops : Array Oper) (i : Nat) (Γ : Facts) : Facts := Γ.filter fun γ => !reach ops ops.size i γ.1

theorem mem_drop {i : Nat} {Γ : Facts} {γ : Nat × (World → Prop)} : γ ∈ drop ops i Γ ↔ γ ∈ Γ ∧ reach ops ops.size i γ.1 = false := by
  simp [drop, List.mem_filter]

def W (P : Program) (ops : Array Oper) (Q : Exit → Act → World → Prop) : Nat → Array Bool → Facts → Act → World → Prop
  | 0, L, _, a, w => Region.ready .any ops L = [] ∧ Q .normal a w
  | n + 1, L, Γ, a, w =>
    (Region.ready .any ops L = [] → Q .normal a w) ∧
    ∀ i ∈ Region.ready .any ops L, wpOp P ops Q i (fun a' w' => (∀ γ ∈ drop ops i Γ, γ.2 w') ∧ W P ops Q n (L.setIfInBounds i true) (drop ops i Γ) a' w') a w

theorem wpAny_of_W {Q : Exit → Act → World → Prop} : ∀ (n : Nat) (L : Array Bool) (Γ : Facts) (a : Act) (w : World), W P ops Q n L Γ a w → wpAny P .any ops Q n L a w
  | 0, _, _, _, _, h => h
  | n + 1, _, _, _, _, h => ⟨h.1, fun i hi => wpOp_mono (fun a' w' h' => wpAny_of_W n _ _ a' w' h'.2) (h.2 i hi)⟩

theorem W_mono {Q : Exit → Act → World → Prop} : ∀ (n : Nat) (L : Array Bool) (Γ Γ' : Facts) (a : Act) (w : World), (∀ γ ∈ Γ', γ ∈ Γ) → W P ops Q n L Γ a w → W P ops Q n L Γ' a w
  | 0, _, _, _, _, _, _, h => h
  | n + 1, _, _, _, _, _, hs, h => ⟨h.1, fun i hi => wpOp_mono (fun a' w' h' =>
      have hs' : ∀ γ ∈ drop ops i _, γ ∈ drop ops i _ := fun _ hγ => mem_drop.2 ⟨hs _ (mem_drop.1 hγ).1, (mem_drop.1 hγ).2⟩
      ⟨fun _ hγ => h'.1 _ (hs' _ hγ), W_mono n _ _ _ a' w' hs' h'.2⟩) (h.2 i hi)⟩

/-- A fact that always stands may be added. -/
theorem W_true {Q : Exit → Act → World → Prop} (i : Nat) : ∀ (n : Nat) (L : Array Bool) (Γ Γ' : Facts) (a : Act) (w : World), (∀ γ ∈ Γ', γ ∈ Γ ∨ γ = (i, fun _ => True)) → W P ops Q n L Γ a w → W P ops Q n L Γ' a w
  | 0, _, _, _, _, _, _, h => h
  | n + 1, _, _, _, _, _, hs, h => ⟨h.1, fun j hj => wpOp_mono (fun a' w' h' =>
      have hs' : ∀ γ ∈ drop ops j _, γ ∈ drop ops j _ ∨ γ = (i, fun _ => True) := fun γ hγ => by
        rcases hs _ (mem_drop.1 hγ).1 with h1 | h1
        · exact .inl (mem_drop.2 ⟨h1, (mem_drop.1 hγ).2⟩)
        · exact .inr h1
      ⟨fun γ hγ => by
        rcases hs' γ hγ with h1 | h1
        · exact h'.1 γ h1
        · rw [h1]; trivial, W_true i n _ _ _ a' w' hs' h'.2⟩) (h.2 j hj)⟩

/-- Operation 'o' leaves 'v' in its slot, and the world as it is. -/
def yieldsR (P : Program) (ops : Array Oper) (o : Oper) (v : Value) (a : Act) (w : World) : Prop :=
  (Region.wanted o (yielded ops a.tmps) = true ∧ (execOp a.eval o).run P w = .ok (.value v) w) ∨ (Region.wanted o (yielded ops a.tmps) = false ∧ v = undef)

theorem yieldsR.wpOp {Q : Exit → Act → World → Prop} {i : Nat} {o : Oper} {v : Value} {a : Act} {w : World} (hi : ops[i]? = some o) (hy : yieldsR P ops o v a w) {K : Act → World → Prop} (h : K (a.put o.dst v) w) :
    wpOp P ops Q i K a w := by
  unfold Go.wpOp
  simp only [hi]
  rcases hy with ⟨hw, hr⟩ | ⟨hw, rfl⟩
  · rw [if_pos hw]; left; unfold Oper.wp; rw [hr]; exact h
  · rw [if_neg (by rw [hw]; simp)]; exact h

/-- All pairs of operations that are not ordered touch different slots. -/
def apartB (ops : Array Oper) : Bool :=
  (List.range ops.size).all fun i => (List.range ops.size).all fun j =>
    Nat.beq i j || reach ops ops.size i j || reach ops ops.size j i || (match ops.toList[i]?, ops.toList[j]? with
      | some x, some y => x.apart ops y
      | _, _ => true)

theorem apartB_spec (h : apartB ops = true) {i j : Nat} {x y : Oper} (hi : ops[i]? = some x) (hj : ops[j]? = some y) (hne : i ≠ j) (h1 : reach ops ops.size i j = false) (h2 : reach ops ops.size j i = false) : x.apart ops y = true := by
  have hli : i < ops.size := (Array.getElem?_eq_some_iff.1 hi).1
  have hlj : j < ops.size := (Array.getElem?_eq_some_iff.1 hj).1
  have h3 := List.all_eq_true.1 (List.all_eq_true.1 h i (List.mem_range.2 hli)) j (List.mem_range.2 hlj)
  rw [h1, h2, Array.getElem?_toList, Array.getElem?_toList, hi, hj] at h3
  simp only [Bool.or_false, Bool.or_eq_true] at h3
  rcases h3 with h3 | h3
  · exact absurd (Nat.eq_of_beq_eq_true h3) hne
  · exact h3

theorem wpOp_put {Q : Exit → Act → World → Prop} {j : Nat} {oi oj : Oper} {v : Value} (hj : ops[j]? = some oj) (hap : oi.apart ops oj = true)
    (hsj : ∀ cs b, oj.op ≠ .select cs b) (hQ : ∀ ch a a' w, a'.defers = a.defers → Q (.panic ch) a w → Q (.panic ch) a' w) {K K' : Act → World → Prop} {a : Act} {w : World}
    (hK : ∀ ds u w', K ((({ a with defers := ds } : Act).put oj.dst u).put oi.dst v) w' → K' (({ a with defers := ds } : Act).put oj.dst u) w')
    (h : wpOp P ops Q j K (a.put oi.dst v) w) : wpOp P ops Q j K' a w := by
  obtain ⟨h1, h2, h3⟩ := Oper.apart_spec hap
  unfold wpOp at *
  simp only [hj] at *
  rw [wanted_put oj a oi.dst v h1] at h
  have hx : execOp (a.put oi.dst v).eval oj = execOp a.eval oj := execOp_put oj hsj a oi.dst v h1
  split
  · rename_i hw
    rw [if_pos hw] at h
    rcases h with h | ⟨⟨h, h'⟩, h''⟩
    · left
      unfold Oper.wp at *
      rw [hx] at h
      have hp : ∀ u w', K ((a.put oi.dst v).put oj.dst u) w' → K' (a.put oj.dst u) w' := fun u w' hk => hK a.defers u w' (by rw [← Act.put_comm a v u h2]; exact hk)
      have hds : a.defers = (a.put oi.dst v).defers := by unfold Act.put; cases oi.dst <;> rfl
      have hp' : ∀ d u w', K (({ a.put oi.dst v with defers := d :: (a.put oi.dst v).defers } : Act).put oj.dst u) w' → K' (({ a with defers := d :: a.defers } : Act).put oj.dst u) w' := fun d u w' hk => by
        have hc := Act.put_comm ({ a with defers := d :: a.defers } : Act) v u h2
        refine hK (d :: a.defers) u w' ?_
        rw [← hc]
        have he : ({ a.put oi.dst v with defers := d :: (a.put oi.dst v).defers } : Act) = ({ a with defers := d :: a.defers } : Act).put oi.dst v := by
          unfold Act.put; cases oi.dst <;> rfl
        rw [← he]
        exact hk
      generalize (execOp a.eval oj).run P w = r at *
      cases r with
      | ok n w' =>
        cases n <;> simp only [Oper.upon] at h ⊢ <;> first
          | exact hp _ _ h
          | exact hp' _ _ _ h
          | (refine Calls.mono h fun e w'' he => ?_
             cases e with
             | returned u => exact hp _ _ he
             | panicked ch => exact hQ _ _ _ _ hds he
             | outgrown => exact he)
          | (exact Rows.mono h fun _ _ he => hp _ _ he)
      | halt x w' => cases x <;> simp only [Oper.upon] at h ⊢ <;> first | exact hQ _ _ _ _ hds h | exact h
    · right
      refine ⟨⟨?_, ?_⟩, h''⟩
      · rw [hx] at h; exact h
      · rw [hx] at h'; exact h'
  · rename_i hw
    rw [if_neg hw] at h
    exact hK a.defers _ _ (by rw [← Act.put_comm a v undef h2]; exact h)

/-- **A read that may come up now may be taken first.** 'F' is kept by whatever comes up and is not ordered behind it, and says that the read still yields 'v'. -/
theorem W_first {Q : Exit → Act → World → Prop} (hQ : ∀ ch a a' w, a'.defers = a.defers → Q (.panic ch) a w → Q (.panic ch) a' w) (hsel : ∀ (j : Nat) (o : Oper) cs b, ops[j]? = some o → o.op ≠ .select cs b) (hap : apartB ops = true)
    {i : Nat} {oi : Oper} {v : Value} {F : World → Prop} (hi : ops[i]? = some oi) :
    ∀ (n : Nat) (L : Array Bool) (Γ : Facts) (a : Act) (w : World), Closed ops L → i ∈ Region.ready .any ops L → (∀ w', F w' → yieldsR P ops oi v a w') → F w → (∀ γ ∈ Γ, γ.2 w) →
      W P ops Q n (L.setIfInBounds i true) ((i, F) :: Γ) (a.put oi.dst v) w → W P ops Q (n + 1) L Γ a w := by
  intro n
  induction n with
  | zero =>
    intro L Γ a w _ hr hF hFw hΓ H
    refine ⟨fun h => (by rw [h] at hr; cases hr), fun j hj => ?_⟩
    by_cases hji : j = i
    · subst hji
      exact (hF w hFw).wpOp hi ⟨fun γ hγ => hΓ γ (mem_drop.1 hγ).1, H⟩
    · have := ready_mono hj hji
      rw [H.1] at this
      cases this
  | succ n ih =>
    intro L Γ a w hc hr hF hFw hΓ H
    refine ⟨fun h => (by rw [h] at hr; cases hr), fun j hj => ?_⟩
    by_cases hji : j = i
    · subst hji
      refine (hF w hFw).wpOp hi ⟨fun γ hγ => hΓ γ (mem_drop.1 hγ).1, ?_⟩
      exact W_mono _ _ _ _ _ _ (fun γ hγ => List.mem_cons_of_mem _ (mem_drop.1 hγ).1) H
    · have h1 := H.2 j (ready_mono hj hji)
      obtain ⟨_, oj, hoj, _⟩ := mem_ready.1 hj
      have r1 : reach ops ops.size j i = false := ready_reach hc hj (ready_unlisted hr)
      have r2 : reach ops ops.size i j = false := ready_reach hc hr (ready_unlisted hj)
      have hapij := apartB_spec hap hi hoj (fun e => hji e.symm) r2 r1
      obtain ⟨_, _, h3⟩ := Oper.apart_spec hapij
      refine wpOp_put hoj hapij (fun cs b => hsel j oj cs b hoj) hQ (fun ds u w' hk => ?_) h1
      obtain ⟨hfacts, hW⟩ := hk
      have hFw' : F w' := hfacts (i, F) (mem_drop.2 ⟨by simp, r1⟩)
      refine ⟨fun γ hγ => hfacts γ (mem_drop.2 ⟨List.mem_cons_of_mem _ (mem_drop.1 hγ).1, (mem_drop.1 hγ).2⟩), ?_⟩
      refine ih (L.setIfInBounds j true) (drop ops j Γ) _ w' (hc.set hj) (ready_mono hr (Ne.symm hji)) (fun w'' hw'' => ?_) hFw' (fun γ hγ => hfacts γ (mem_drop.2 ⟨List.mem_cons_of_mem _ (mem_drop.1 hγ).1, (mem_drop.1 hγ).2⟩)) ?_
      · have hy : yieldsR P ops oi v ({ a with defers := ds } : Act) w'' := hF w'' hw''
        unfold yieldsR at hy ⊢
        rw [wanted_put oi _ oj.dst u h3, execOp_put oi (fun cs b => hsel i oi cs b hi) _ oj.dst u h3]
        exact hy
      · rw [Array.setIfInBounds_comm _ _ hji]
        refine W_mono _ _ _ _ _ _ (fun γ hγ => ?_) hW
        rcases List.mem_cons.1 hγ with rfl | hγ
        · exact mem_drop.2 ⟨by simp, r1⟩
        · exact mem_drop.2 ⟨List.mem_cons_of_mem _ (mem_drop.1 hγ).1, (mem_drop.1 hγ).2⟩

/-! ### Reads first -/
def PUR (P : Program) (s : Sem Value) (K : Value → Prop) (_k : Tok K := tok K) : Prop := ∃ v, (∀ w, s.run P w = .ok v w) ∧ K v
def LD (P : Program) (s : Sem Value) (w : World) (K : Value → Prop) (_k : Tok K := tok K) : Prop := ∃ v, s.run P w = .ok v w ∧ K v

def isRead (ops : Array Oper) (i : Nat) : Bool :=
  match ops.toList[i]? with
  | some o => match rkind o.op with | .eff => false | _ => true
  | none => false

/-- A read: 'next v none' where what it yields hangs on no world, 'next v (some F)' where 'F' must be kept. -/
def readP (P : Program) (op : Op) (ty : TypeId) (e : Operand → Value) (w : World) (next : Value → Option (World → Prop) → Prop) : Prop :=
  match op with
  | .move x => next (e x) none
  | .assign x => next (e x) none
  | .pick c a b => PICK (e c) (e a) (e b) fun v => next v none
  | .nilCheck x => NILC (e x) fun v => next v none
  | op =>
    match semOf op ty e with
    | some s =>
      match rkind op with
      | .pure => PUR P s fun v => next v none
      | .load => LD P s w fun v => next v (some fun w' => s.run P w' = .ok v w')
      | .eff => False
    | none => False

def addF (i : Nat) (f : Option (World → Prop)) (Γ : Facts) : Facts :=
  match f with
  | none => Γ
  | some F => (i, F) :: Γ

def HOLDS : Facts → World → Prop → Prop
  | [], _, B => B
  | γ :: Γ, w, B => γ.2 w ∧ HOLDS Γ w B

def ALLC : List Nat → (Nat → Prop) → Prop
  | [], _ => True
  | [i], f => f i
  | i :: l, f => f i ∧ ALLC l f

def drawP (P : Program) (X : Pan) (ops : Array Oper) : Nat → Array Bool → Facts → Env → World → (Env → World → Prop) → Prop
  | 0, L, _, ρ, w, K => match Region.ready .any ops L with | [] => K ρ w | _ => False
  | n + 1, L, Γ, ρ, w, K =>
    match (Region.ready .any ops L).find? (isRead ops) with
    | some i =>
      match ops.toList[i]? with
      | none => False
      | some o =>
        let run : Prop := readP P o.op o.type (ev ρ) w fun v f =>
          match isGuard ops i with
          | true => SPLITF v fun b => drawP P X ops n (L.setIfInBounds i true) (addF i f Γ) (upd ρ o.dst (.bool b)) w K
          | false => drawP P X ops n (L.setIfInBounds i true) (addF i f Γ) (upd ρ o.dst v) w K
        match o.guard with
        | none => run
        | some (j, want) => GOK (gval ops ρ j) want run (drawP P X ops n (L.setIfInBounds i true) Γ (upd ρ o.dst undef) w K)
    | none =>
      match Region.ready .any ops L with
      | [] => K ρ w
      | l => ALLC l fun i =>
        match ops.toList[i]? with
        | none => False
        | some o =>
          let run : Prop := opP P X o.op o.type (ev ρ) w fun v w' =>
            HOLDS (drop ops i Γ) w' (match isGuard ops i with
              | true => SPLITF v fun b => drawP P X ops n (L.setIfInBounds i true) (drop ops i Γ) (upd ρ o.dst (.bool b)) w' K
              | false => drawP P X ops n (L.setIfInBounds i true) (drop ops i Γ) (upd ρ o.dst v) w' K)
          match o.guard with
          | none => run
          | some (j, want) => GOK (gval ops ρ j) want run (drawP P X ops n (L.setIfInBounds i true) (drop ops i Γ) (upd ρ o.dst undef) w K)

theorem HOLDS_spec : ∀ {Γ : Facts} {w : World} {B : Prop}, HOLDS Γ w B → (∀ γ ∈ Γ, γ.2 w) ∧ B
  | [], _, _, h => ⟨(fun γ hγ => by cases hγ), h⟩
  | γ :: Γ, w, B, h => by
    obtain ⟨h1, h2⟩ := h
    obtain ⟨h3, h4⟩ := HOLDS_spec h2
    exact ⟨fun δ hδ => by
      rcases List.mem_cons.1 hδ with rfl | hδ
      · exact h1
      · exact h3 _ hδ, h4⟩

theorem ALLC_spec : ∀ {l : List Nat} {f : Nat → Prop}, ALLC l f → ∀ i ∈ l, f i
  | [], _, _, i, hi => by cases hi
  | [j], f, h, i, hi => by
    rcases List.mem_cons.1 hi with rfl | hi
    · exact h
    · cases hi
  | j :: k :: l, f, h, i, hi => by
    obtain ⟨h1, h2⟩ := h
    rcases List.mem_cons.1 hi with rfl | hi
    · exact h1
    · exact ALLC_spec h2 i hi

theorem run_value {P : Program} {s : Sem Value} {w : World} {v : Value} (h : s.run P w = .ok v w) : (do pure (.value (← s)) : Sem Next).run P w = .ok (.value v) w := by
  simp only [Sem.run_bind, h, Result.andThen_ok, Sem.run_pure]

/-- What a read says of the operation itself. -/
theorem readP_spec {o : Oper} {e : Operand → Value} {w : World} {next : Value → Option (World → Prop) → Prop} (h : readP P o.op o.type e w next) :
    ∃ v f, next v f ∧ (∀ F, f = some F → F w) ∧ ∀ w', (∀ F, f = some F → F w') → (execOp e o).run P w' = .ok (.value v) w' := by
  obtain ⟨dst, op, ty, pos, after, guard⟩ := o
  have key : ∀ (s : Sem Value) (k : RK), semOf op ty e = some s → (match k with
        | .pure => PUR P s fun v => next v none
        | .load => LD P s w fun v => next v (some fun w' => s.run P w' = .ok v w')
        | .eff => False) → (∀ v w', s.run P w' = .ok v w' → (execOp e ⟨dst, op, ty, pos, after, guard⟩).run P w' = .ok (.value v) w') →
      ∃ v f, next v f ∧ (∀ F, f = some F → F w) ∧ ∀ w', (∀ F, f = some F → F w') → (execOp e ⟨dst, op, ty, pos, after, guard⟩).run P w' = .ok (.value v) w' := by
    intro s k _ hk hs
    cases k with
    | pure =>
      obtain ⟨v, hv, hn⟩ := hk
      exact ⟨v, none, hn, (fun F hF => by cases hF), fun w' _ => hs v w' (hv w')⟩
    | load =>
      obtain ⟨v, hv, hn⟩ := hk
      exact ⟨v, _, hn, (fun F hF => by cases hF; exact hv), fun w' hF => hs v w' (hF _ rfl)⟩
    | eff => exact hk.elim
  cases op with
  | move x => exact ⟨_, none, h, (fun F hF => by cases hF), fun w' _ => rfl⟩
  | assign x => exact ⟨_, none, h, (fun F hF => by cases hF), fun w' _ => rfl⟩
  | pick c a b =>
    simp only [readP, PICK] at h
    split at h
    · rename_i t ht
      refine ⟨_, none, h, (fun F hF => by cases hF), fun w' _ => ?_⟩
      simp only [execOp, ht, asBool, Sem.run_bind, Sem.run_pure, Result.andThen_ok]
      cases t <;> rfl
    · exact h.elim
  | nilCheck x =>
    simp only [readP, NILC] at h
    split at h
    · exact h.elim
    · exact h.elim
    · exact h.elim
    · exact h.elim
    · rename_i h1 h2 h3 h4
      refine ⟨_, none, h, (fun F hF => by cases hF), fun w' _ => ?_⟩
      unfold execOp
      simp only [Sem.run_pure]
  | call c =>
    obtain ⟨callee, args, argTypes⟩ := c
    cases callee with
    | value f => exact h.elim
    | invoke r m => exact h.elim
    | builtin b =>
      cases b <;> first
        | exact h.elim
        | (refine key _ .load rfl h fun v w' hr => ?_
           simp only [execOp, resolve, invoke, builtin, Sem.run_bind, Sem.run_pure, Result.andThen_ok, map_toList, hr])
  | build t ps => exact key _ .pure rfl h fun v w' hr => by simp only [execOp, map_toList2]; exact run_value hr
  | makeFunc fn fs cs => exact key _ .pure rfl h fun v w' hr => by simp only [execOp, map_toList]; exact run_value hr
  | _ => first
    | exact h.elim
    | exact key _ .pure rfl h fun v w' hr => run_value hr
    | exact key _ .load rfl h fun v w' hr => run_value hr

def opsOk (N : Nat) (ops : Array Oper) : Bool := dstsIn N ops && Region.noSelect ops && apartB ops

theorem drawP_sound {P : Program} {ops : Array Oper} {X : Pan} {N : Nat} {Q : Exit → Act → World → Prop} (hX : ∀ ch a w, a.defers = [] → X ch w → Q (.panic ch) a w) (hQ : ∀ ch a a' w, a'.defers = a.defers → Q (.panic ch) a w → Q (.panic ch) a' w)
    (hok : opsOk N ops = true) {K : Env → World → Prop} (hK : ∀ a ρ w, Rel N a ρ → K ρ w → Q .normal a w) :
    ∀ (n : Nat) (L : Array Bool) (Γ : Facts) (ρ : Env) (a : Act) (w : World), Closed ops L → (∀ γ ∈ Γ, γ.2 w) → Rel N a ρ → drawP P X ops n L Γ ρ w K → W P ops Q n L Γ a w := by
  simp only [opsOk, Bool.and_eq_true] at hok
  obtain ⟨⟨hd, hns⟩, hap⟩ := hok
  have hsel : ∀ (j : Nat) (o : Oper) cs b, ops[j]? = some o → o.op ≠ .select cs b := fun j o cs b ho => Region.noSelect_spec hns j o cs b ho
  intro n
  induction n with
  | zero =>
    intro L Γ ρ a w _ _ hr h
    unfold drawP at h
    split at h
    · rename_i h0; exact ⟨h0, hK _ _ _ hr h⟩
    · exact h.elim
  | succ n ih =>
    intro L Γ ρ a w hc hΓ hr h
    unfold drawP at h
    have dst_in : ∀ {i : Nat} {o : Oper}, ops.toList[i]? = some o → dstIn N o.dst = true := fun ho => List.all_eq_true.1 hd _ (List.mem_of_getElem? ho)
    split at h
    · rename_i i hfind
      have hi : i ∈ Region.ready .any ops L := List.mem_of_find?_eq_some hfind
      split at h
      · exact h.elim
      · rename_i o ho
        have ho' : ops[i]? = some o := by rw [← Array.getElem?_toList]; exact ho
        have skip : Region.wanted o (yielded ops a.tmps) = false → drawP P X ops n (L.setIfInBounds i true) Γ (upd ρ o.dst undef) w K → W P ops Q (n + 1) L Γ a w := fun hw hh => by
          refine W_first hQ hsel hap (F := fun _ => True) (v := undef) ho' n L Γ a w hc hi (fun _ _ => .inr ⟨hw, rfl⟩) trivial hΓ ?_
          exact W_true i n _ Γ _ _ _ (fun γ hγ => by
            rcases List.mem_cons.1 hγ with rfl | hγ
            · exact .inr rfl
            · exact .inl hγ) (ih _ _ _ _ _ (hc.set hi) hΓ (hr.put (dst_in ho) _) hh)
        have run : Region.wanted o (yielded ops a.tmps) = true → (readP P o.op o.type (ev ρ) w fun v f =>
            match isGuard ops i with
            | true => SPLITF v fun b => drawP P X ops n (L.setIfInBounds i true) (addF i f Γ) (upd ρ o.dst (.bool b)) w K
            | false => drawP P X ops n (L.setIfInBounds i true) (addF i f Γ) (upd ρ o.dst v) w K) → W P ops Q (n + 1) L Γ a w := fun hw hh => by
          obtain ⟨v, f, hn, hf, hy⟩ := readP_spec (o := o) hh
          have hn' : drawP P X ops n (L.setIfInBounds i true) (addF i f Γ) (upd ρ o.dst v) w K := by
            split at hn
            · obtain ⟨b, rfl, hb⟩ := SPLITF_elim hn; exact hb
            · exact hn
          cases f with
          | none =>
            refine W_first hQ hsel hap (F := fun _ => True) (v := v) ho' n L Γ a w hc hi (fun w' _ => .inl ⟨hw, by rw [hr.eval]; exact hy w' (fun F hF => by cases hF)⟩) trivial hΓ ?_
            exact W_true i n _ Γ _ _ _ (fun γ hγ => by
              rcases List.mem_cons.1 hγ with rfl | hγ
              · exact .inr rfl
              · exact .inl hγ) (ih _ _ _ _ _ (hc.set hi) hΓ (hr.put (dst_in ho) _) hn')
          | some F =>
            have hFw : F w := hf F rfl
            refine W_first hQ hsel hap (F := F) (v := v) ho' n L Γ a w hc hi (fun w' hF => .inl ⟨hw, by rw [hr.eval]; exact hy w' (fun F' hF' => by cases hF'; exact hF)⟩) hFw hΓ ?_
            refine ih _ _ _ _ _ (hc.set hi) (fun γ hγ => ?_) (hr.put (dst_in ho) _) hn'
            rcases List.mem_cons.1 hγ with rfl | hγ
            · exact hFw
            · exact hΓ _ hγ
        cases hg : o.guard with
        | none => rw [hg] at h; exact run (wanted_none hg _) h
        | some g =>
          obtain ⟨j, want⟩ := g
          rw [hg] at h
          rcases wanted_some hr hd hg h with ⟨hw, hA⟩ | ⟨hw, hB⟩
          · exact run hw hA
          · exact skip hw hB
    · refine ⟨fun h0 => ?_, fun i hi => ?_⟩
      · rw [h0] at h; exact hK _ _ _ hr h
      · split at h
        · rename_i h0; rw [h0] at hi; cases hi
        · have h := ALLC_spec h i hi
          split at h
          · exact h.elim
          · rename_i o ho
            have ho' : ops[i]? = some o := by rw [← Array.getElem?_toList]; exact ho
            unfold wpOp
            simp only [ho']
            have run : (opP P X o.op o.type (ev ρ) w fun v w' =>
              HOLDS (drop ops i Γ) w' (match isGuard ops i with
                | true => SPLITF v fun b => drawP P X ops n (L.setIfInBounds i true) (drop ops i Γ) (upd ρ o.dst (.bool b)) w' K
                | false => drawP P X ops n (L.setIfInBounds i true) (drop ops i Γ) (upd ρ o.dst v) w' K)) →
                o.wp P a w (fun a' w' => (∀ γ ∈ drop ops i Γ, γ.2 w') ∧ W P ops Q n (L.setIfInBounds i true) (drop ops i Γ) a' w') Q := fun hh => by
              unfold Oper.wp
              rw [hr.eval]
              refine opP_sound hh (fun ch w' hx => hX _ _ _ hr.defers hx) fun v w' hv => ?_
              obtain ⟨hfs, hv⟩ := HOLDS_spec hv
              refine ⟨hfs, ?_⟩
              split at hv
              · obtain ⟨b, rfl, hb⟩ := SPLITF_elim hv
                exact ih _ _ _ _ _ (hc.set hi) hfs (hr.put (dst_in ho) _) hb
              · exact ih _ _ _ _ _ (hc.set hi) hfs (hr.put (dst_in ho) _) hv
            cases hg : o.guard with
            | none =>
              rw [hg] at h
              rw [if_pos (wanted_none hg _)]
              exact .inl (run h)
            | some g =>
              obtain ⟨j, want⟩ := g
              rw [hg] at h
              rcases wanted_some hr hd hg h with ⟨hw, hA⟩ | ⟨hw, hB⟩
              · rw [if_pos hw]; exact .inl (run hA)
              · rw [if_neg (by rw [hw]; simp)]
                have hfs : ∀ γ ∈ drop ops i Γ, γ.2 w := fun γ hγ => hΓ γ (mem_drop.1 hγ).1
                exact ⟨hfs, ih _ _ _ _ _ (hc.set hi) hfs (hr.put (dst_in ho) _) hB⟩

end
theorem LD_elim {P : Program} {s : Sem Value} {w : World} {K : Value → Prop} (h : LD P s w K) : ∃ v, s.run P w = .ok v w ∧ K v := h
theorem LD_intro {P : Program} {s : Sem Value} {w : World} {K : Value → Prop} (v : Value) (h : s.run P w = .ok v w) (k : K v) : LD P s w K := ⟨v, h, k⟩
theorem PUR_elim {P : Program} {s : Sem Value} {K : Value → Prop} (h : PUR P s K) : ∃ v, (∀ w, s.run P w = .ok v w) ∧ K v := h
theorem PUR_intro {P : Program} {s : Sem Value} {K : Value → Prop} (v : Value) (h : ∀ w, s.run P w = .ok v w) (k : K v) : PUR P s K := ⟨v, h, k⟩
attribute [irreducible] LD PUR
end Go.Px
