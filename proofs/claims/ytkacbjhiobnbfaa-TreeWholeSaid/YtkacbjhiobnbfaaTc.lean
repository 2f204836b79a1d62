/-
  Texts of this claim: TrX, Tr7, Tr8.
-/
import Derived.Test.YtkacbjhiobnbfaaTa
import Derived.Test.YtkacbjhiobnbfaaMe
import Derived.Test.YtkacbjhiobnbfaaTb
import Derived.Test.YtkacbjhiobnbfaaMf
/-
  A tree's text, plainly: the document's way and the program's.
-/
namespace Go.Px.Scan
open Go.Px
def closeF : List Nat → Txt → Txt × List Nat
  | [], t => (t, [])
  | k :: o, t => if 1 < k then (t, (k - 1) :: o) else closeF o (t ++ [41])
def stepN (nm : Int → Txt) (x : Nd) (t : Txt) (o : List Nat) : Txt × List Nat :=
  if 0 ≤ x.2.1 then closeF ((x.2.2.2.length + 1) :: o) (t ++ nm x.1 ++ [40]) else closeF o (t ++ nm x.1)
def spaceT (t : Txt) (o : List Nat) : Txt := if o ≠ [] ∧ t.getLast? ≠ some 40 then t ++ [32] else t
def textV (nm : Int → Txt) (N : Nat) (l : List Nd) (s : Txt × List Nat) (n : Nat) : Option (Txt × List Nat) :=
  if (l.getD n zN).1 < N then some (stepN nm (l.getD n zN) (spaceT s.1 s.2) s.2) else none
def condT (x : Nd) (nx : Option Nat) : Prop := x.2.1 < 0 ∨ x.2.2.2 = [] ∨ ∃ m k, nx = some m ∧ x.2.2.2.head? = some k ∧ (m : Int) ≠ k
open Classical in
noncomputable def refT (nm : Int → Txt) (N : Nat) (l : List Nd) : List Nat → Txt × List Nat → Option Txt
  | [], s => some s.1
  | n :: r, s => if (l.getD n zN).1 < N then
      refT nm N l r (if (stepN nm (l.getD n zN) s.1 s.2).2 ≠ [] ∧ condT (l.getD n zN) r.head? then (stepN nm (l.getD n zN) s.1 s.2).1 ++ [32] else (stepN nm (l.getD n zN) s.1 s.2).1, (stepN nm (l.getD n zN) s.1 s.2).2) else none

def sub1 (o : List Nat) : Nat := (o.map (· - 1)).sum
def wgt : List Nat → Nat
  | [] => 0
  | k :: r => k + sub1 r
theorem closeF_wgt : ∀ (o : List Nat) (t : Txt), (∀ k ∈ o, 1 ≤ k) → (((closeF o t).2 = [] ∧ sub1 o = 0) ∨ ((closeF o t).2 ≠ [] ∧ wgt (closeF o t).2 = sub1 o)) ∧ ∀ k ∈ (closeF o t).2, 1 ≤ k
  | [], t, _ => by simp [closeF, sub1]
  | k :: o, t, h => by
    unfold closeF
    by_cases hk : 1 < k
    · rw [if_pos hk]
      refine ⟨Or.inr ⟨by simp, by simp [wgt, sub1]⟩, fun j hj => ?_⟩
      rcases List.mem_cons.1 hj with rfl | hj
      · omega
      · exact h j (by simp [hj])
    · rw [if_neg hk]
      have ih := closeF_wgt o (t ++ [41]) fun j hj => h j (by simp [hj])
      have e : sub1 (k :: o) = sub1 o := by have := h k (by simp); simp [sub1]; omega
      rw [e]; exact ih
theorem closeF_last : ∀ (o : List Nat) (t : Txt), (closeF o t).1.getLast? = t.getLast? ∨ (closeF o t).1.getLast? = some 41
  | [], t => Or.inl rfl
  | k :: o, t => by
    unfold closeF
    by_cases hk : 1 < k
    · rw [if_pos hk]; exact Or.inl rfl
    · rw [if_neg hk]
      rcases closeF_last o (t ++ [41]) with h | h
      · exact Or.inr (by rw [h]; simp)
      · exact Or.inr h
theorem closeF_len : ∀ (o : List Nat) (t : Txt), (closeF o t).1.length + (closeF o t).2.length = t.length + o.length ∧ t.length ≤ (closeF o t).1.length
  | [], t => by simp [closeF]
  | k :: o, t => by
    unfold closeF
    by_cases hk : 1 < k
    · rw [if_pos hk]; simp
    · rw [if_neg hk]
      have := closeF_len o (t ++ [41])
      simp at this ⊢; omega
theorem walkF_head {l : List Nd} {rt : Bool} {f : Nat} {out ws rest : List Nat} {m : Nat} (h : walkF l rt f out (m :: ws) = some (out ++ rest)) : ∃ r, rest = m :: r := by
  cases f with
  | zero => simp [walkF] at h
  | succ f =>
    simp only [walkF] at h
    split at h
    · obtain ⟨t, e⟩ := walkF_pre h
      rw [List.append_assoc] at e
      exact ⟨t, by simpa using List.append_cancel_left e⟩
    · cases h
def invT (o ws : List Nat) : Prop := ((o = [] ∧ ws.length ≤ 1) ∨ (o ≠ [] ∧ ws.length = wgt o)) ∧ ∀ k ∈ o, 1 ≤ k
theorem invT_sub {o ws : List Nat} {n : Nat} (h : invT o (n :: ws)) : sub1 o = ws.length := by
  rcases h.1 with ⟨h1, h2⟩ | ⟨h1, h2⟩
  · subst h1; simp [sub1] at h2 ⊢; simp [h2]
  · cases o with
    | nil => exact absurd rfl h1
    | cons k r =>
      have := h.2 k (by simp)
      simp [wgt, sub1] at h2 ⊢; omega
variable {nm : Int → Txt} {N : Nat} {l : List Nd}
theorem stepN_inv {x : Nd} {n : Nat} {o ws : List Nat} {t : Txt} (h : invT o (n :: ws)) (hx : okN n x) : invT (stepN nm x t o).2 (nextW false x ws) := by
  have hs := invT_sub h
  unfold stepN
  have hkl : (kidsN x).length = x.2.2.2.length := by simp [kidsN]
  have fin : ∀ (o' : List Nat) (t' : Txt), (∀ k ∈ o', 1 ≤ k) → sub1 o' = (nextW false x ws).length → invT (closeF o' t').2 (nextW false x ws) := by
    intro o' t' ho hs'
    obtain ⟨h1, h2⟩ := closeF_wgt o' t' ho
    refine ⟨?_, h2⟩
    rcases h1 with ⟨h1, h3⟩ | ⟨h1, h3⟩
    · exact Or.inl ⟨h1, by omega⟩
    · exact Or.inr ⟨h1, by omega⟩
  by_cases hp : 0 ≤ x.2.1
  · rw [if_pos hp]
    refine fin _ _ (fun k hk => ?_) ?_
    · rcases List.mem_cons.1 hk with rfl | hk
      · omega
      · exact h.2 k hk
    · simp [sub1, nextW, hkl] at hs ⊢; omega
  · rw [if_neg hp]
    have hk : x.2.2.2 = [] := by
      rcases hx.2 with h1 | h1
      · exact h1.2.2
      · omega
    refine fin _ _ h.2 ?_
    simp [nextW, kidsN, hk]; exact hs
theorem stepN_last (hnm : ∀ s, (nm s).getLast? ≠ some 40 ∧ nm s ≠ []) {x : Nd} {n : Nat} {t : Txt} {o : List Nat} (hx : okN n x) : (stepN nm x t o).1.getLast? = some 40 ↔ 0 ≤ x.2.1 ∧ x.2.2.2 ≠ [] := by
  unfold stepN
  by_cases hp : 0 ≤ x.2.1
  · rw [if_pos hp]
    unfold closeF
    by_cases hk : x.2.2.2 = []
    · rw [if_neg (by simp [hk])]
      constructor
      · intro h
        rcases closeF_last o (t ++ nm x.1 ++ [40] ++ [41]) with h1 | h1
        · rw [h1] at h; simp at h
        · rw [h1] at h; simp at h
      · exact fun h => absurd hk h.2
    · have : 0 < x.2.2.2.length := List.length_pos_iff.2 hk
      rw [if_pos (by omega)]
      simp [hp, hk]
  · rw [if_neg hp]
    constructor
    · intro h
      have hl : (t ++ nm x.1).getLast? = (nm x.1).getLast? := by
        rw [List.getLast?_append]
        cases hq : (nm x.1).getLast? with
        | none => exact absurd (List.getLast?_eq_none_iff.1 hq) (hnm x.1).2
        | some y => rfl
      rcases closeF_last o (t ++ nm x.1) with h1 | h1
      · rw [h1, hl] at h; exact absurd h (hnm x.1).1
      · rw [h1] at h; simp at h
    · exact fun h => absurd h.1 hp
open Classical in
theorem text_eq (hnm : ∀ s, (nm s).getLast? ≠ some 40 ∧ nm s ≠ []) : ∀ (f : Nat) (out ws rest : List Nat) (s : Txt × List Nat), walkF l false f out ws = some (out ++ rest) → invT s.2 ws →
    refT nm N l rest (spaceT s.1 s.2, s.2) = (looks (textV nm N l) s rest).map (·.1)
  | f, out, [], rest, s, h, hi => by
    have h1 : out = out ++ rest := by cases f <;> (simp only [walkF] at h; exact Option.some.inj h)
    have h2 : rest = [] := by simpa using h1
    subst h2
    have h3 : s.2 = [] := by
      rcases hi.1 with h1 | ⟨h1, h2⟩
      · exact h1.1
      · cases ho : s.2 with
        | nil => rfl
        | cons k r => rw [ho] at h2 hi; have := hi.2 k (by simp); simp [wgt] at h2; omega
    simp [refT, looks, spaceT, h3]
  | 0, out, n :: ws, rest, s, h, hi => by simp [walkF] at h
  | f + 1, out, n :: ws, rest, s, h, hi => by
    obtain ⟨r, rfl⟩ := walkF_head h
    simp only [walkF] at h
    split at h
    · rename_i hc
      rw [show out ++ n :: r = (out ++ [n]) ++ r by simp] at h
      have e2 : looks (textV nm N l) s (n :: r) = (textV nm N l s n).bind fun s' => looks (textV nm N l) s' r := by
        cases hv : textV nm N l s n with
        | none => simp [looks, hv, looks_none]
        | some s' => simp [looks, hv]
      rw [e2]
      unfold refT textV
      by_cases hN : (l.getD n zN).1 < N
      · rw [if_pos hN, if_pos hN, Option.bind_some]
        have hi2 := stepN_inv (nm := nm) (t := spaceT s.1 s.2) hi hc.1
        have ih := text_eq hnm f (out ++ [n]) _ r (stepN nm (l.getD n zN) (spaceT s.1 s.2) s.2) h hi2
        refine Eq.trans ?_ ih
        congr 1
        refine Prod.ext ?_ rfl
        show (if _ then _ else _) = spaceT _ _
        unfold spaceT
        rw [← spaceT]
        have hl := stepN_last hnm (t := spaceT s.1 s.2) (o := s.2) hc.1
        generalize hx : l.getD n zN = x at *
        have key : condT x r.head? ↔ (stepN nm x (spaceT s.1 s.2) s.2).1.getLast? ≠ some 40 := by
          rw [Ne, hl]
          unfold condT
          constructor
          · rintro (h1 | h1 | ⟨m, k, h1, h2, h3⟩) ⟨h4, h5⟩
            · omega
            · exact h5 h1
            · cases hk : x.2.2.2 with
              | nil => exact h5 hk
              | cons k' ks =>
                rw [hk] at h2
                simp at h2; subst h2
                have hw : nextW false x ws = k'.toNat :: (ks.map Int.toNat ++ ws) := by simp [nextW, kidsN, hk]
                rw [hw] at h
                obtain ⟨r', rfl⟩ := walkF_head h
                simp at h1
                have hk0 : 0 ≤ k' := by
                  rcases hc.1.2 with h6 | h6
                  · rw [hk] at h6; cases h6.2.2
                  · exact (h6.2.2 k' (by rw [hk]; simp)).1
                omega
          · intro h4
            by_cases h5 : x.2.1 < 0
            · exact Or.inl h5
            · by_cases h6 : x.2.2.2 = []
              · exact Or.inr (Or.inl h6)
              · exact absurd ⟨by omega, h6⟩ h4
        simp only [key]
      · rw [if_neg hN, if_neg hN]; rfl
    · cases h
theorem textV_len (hnm : ∀ s, (nm s).length ≤ 18) (hn0 : ∀ s, nm s ≠ []) {s s' : Txt × List Nat} {n : Nat} (h : textV nm N l s n = some s') : s'.1.length + s'.2.length ≤ s.1.length + s.2.length + 21 ∧ s'.1 ≠ [] := by
  unfold textV at h
  split at h
  · injection h with h
    subst h
    have hsp : (spaceT s.1 s.2).length ≤ s.1.length + 1 := by unfold spaceT; split <;> simp
    have h18 := hnm (l.getD n zN).1
    have h0 := List.length_pos_iff.2 (hn0 (l.getD n zN).1)
    unfold stepN
    split
    · have := closeF_len (((l.getD n zN).2.2.2.length + 1) :: s.2) (spaceT s.1 s.2 ++ nm (l.getD n zN).1 ++ [40])
      simp only [List.length_append, List.length_cons, List.length_nil] at this
      exact ⟨by omega, fun e => by rw [e] at this; simp at this⟩
    · have := closeF_len s.2 (spaceT s.1 s.2 ++ nm (l.getD n zN).1)
      simp only [List.length_append] at this
      exact ⟨by omega, fun e => by rw [e] at this; simp at this; have := this.2.2; simp [this] at h0⟩
  · cases h
end Go.Px.Scan

/-
  tree: Text, one node.
-/
namespace Go.Px.Scan
open Go.Px Go.RowKit
def textC (bb ob : Nat) (s : Txt × List Nat) : Ch := Ch.ex fun x : Option Addr × Nat => Ch.all [pgC 5 100 bb [] s.1, boxC ob 24 [.slice x.1 s.2.length x.2], rowC 3 1 x.1 s.2.length x.2 (natV s.2.reverse)]
theorem BA_get (t : Txt) (i : Nat) (h : i < (BA t).size) : (BA t)[i]'h = t[i]'(by rw [BA_size] at h; exact h) := rfl
theorem symT_ne (g : Gr) (s : Int) : symT g s ≠ [] := by
  unfold symT
  split
  · simp [tEnd]
  · split
    · simp
    · split
      · simp [tStart]
      · rename_i h
        intro e
        exact h (by have := congrArg BA e; rw [BA_tx] at this; exact this)
theorem looks_inv {σ : Type} {V : σ → Nat → Option σ} (P : σ → Prop) (hs : ∀ s n s', P s → V s n = some s' → P s') : ∀ (r : List Nat) (s0 s : σ), P s0 → looks V s0 r = some s → P s
  | [], s0, s, h0, h => by
    have : s0 = s := by simpa [looks] using h
    subst this; exact h0
  | n :: r, s0, s, h0, h => by
    have e : looks V s0 (n :: r) = (V s0 n).bind fun s' => looks V s' r := by
      cases hv : V s0 n with
      | none => simp [looks, hv, looks_none]
      | some s' => simp [looks, hv]
    rw [e] at h
    cases hv : V s0 n with
    | none => rw [hv] at h; cases h
    | some s' =>
      rw [hv] at h
      exact looks_inv P hs r s' s (hs _ _ _ h0 hv) h
theorem closeF_le {M : Nat} : ∀ (o : List Nat) (t : Txt), (∀ k ∈ o, k ≤ M) → ∀ k ∈ (closeF o t).2, k ≤ M
  | [], t, _ => by simp [closeF]
  | k :: o, t, h => by
    unfold closeF
    split
    · intro j hj
      rcases List.mem_cons.1 hj with rfl | hj
      · have := h k (by simp); omega
      · exact h j (by simp [hj])
    · exact closeF_le o _ fun j hj => h j (by simp [hj])
theorem textV_olen {nm : Int → Txt} {N : Nat} {l : List Nd} {s s' : Txt × List Nat} {n : Nat} (h : textV nm N l s n = some s') : s'.2.length ≤ s.2.length + 1 := by
  unfold textV at h
  split at h
  · injection h with h; subst h
    unfold stepN
    split
    · have := closeF_len (((l.getD n zN).2.2.2.length + 1) :: s.2) (spaceT s.1 s.2 ++ nm (l.getD n zN).1 ++ [40])
      simp only [List.length_cons] at this; omega
    · have := closeF_len s.2 (spaceT s.1 s.2 ++ nm (l.getD n zN).1)
      omega
  · cases h
theorem textV_le {nm : Int → Txt} {N M : Nat} {l : List Nd} (hM : ∀ x ∈ l, x.2.2.2.length + 1 ≤ M) (h1 : 1 ≤ M) {s s' : Txt × List Nat} {n : Nat} (h0 : ∀ k ∈ s.2, k ≤ M) (h : textV nm N l s n = some s') : ∀ k ∈ s'.2, k ≤ M := by
  unfold textV at h
  split at h
  · injection h with h; subst h
    unfold stepN
    split
    · refine closeF_le _ _ fun k hk => ?_
      rcases List.mem_cons.1 hk with rfl | hk
      · by_cases hn : n < l.length
        · have := hM _ (List.getElem_mem hn); simpa [hn] using this
        · simp [hn, zN]; omega
      · exact h0 k hk
    · exact closeF_le _ _ h0
  · cases h
end Go.Px.Scan
namespace Go.Proofs.Ytkacbjhiobnbfaa
open Go.Px Go.Px.Scan Go.RowKit
set_option maxHeartbeats 1000000
set_option linter.unusedSimpArgs false
set_option linter.unusedVariables false
set_option maxRecDepth 100000
attribute [-go_sem] Builtin.append_ tree_Text_1.b3 tree_Text_1.b3_1 tree_Text_1.b3_2 tree_Text_1.b10 tree_Text_1.b9_1 tree_Text_1.b9_2 tree_Text_1.b8_1

/-- The closing of what is done. -/
theorem close_ok {F : Nat → Prop} {w0 w : World} {bb ob : Nat} {X : Ch} {a : Option Addr} {cw : Nat} {t : Txt} {o : List Nat} {R : Ending → World → Prop}
    (st : St F w0 w [pgC 5 100 bb [] t, boxC ob 24 [.slice a o.length cw], rowC 3 1 a o.length cw (natV o.reverse), X]) (hM : ∀ k ∈ o, k ≤ 20000000000000) (hb : t.length + o.length ≤ maxBytes)
    (hR : ∀ w' a' cw', St F w0 w' [pgC 5 100 bb [] (closeF o t).1, boxC ob 24 [.slice a' (closeF o t).2.length cw'], rowC 3 1 a' (closeF o t).2.length cw' (natV (closeF o t).2.reverse), X] → R (.returned (.bool true)) w') :
    tree_Text_1.l7 R (.pointer (some ⟨bb, 0, none⟩)) (.pointer (some ⟨ob, 0, none⟩)) w := by
  let K : World → Nat → Prop := fun w f => ∃ (t' : Txt) (o' : List Nat) (a' : Option Addr) (cw' : Nat), o'.length = f ∧ closeF o' t' = closeF o t ∧ (∀ k ∈ o', k ≤ 20000000000000) ∧ t'.length + o'.length ≤ maxBytes ∧ St F w0 w [pgC 5 100 bb [] t', boxC ob 24 [.slice a' o'.length cw'], rowC 3 1 a' o'.length cw' (natV o'.reverse), X]
  refine tree_Text_1.l7_intro _ _ _ _ (fun w => ∃ f, K w f) (muOf K) ⟨_, t, o, a, cw, rfl, rfl, hM, hb, st⟩ ?_
  intro w1 hJ C hC
  obtain ⟨t', o', a', cw', hf, hcl, hM', hb', s1⟩ := muOf_at hJ
  have hC' : ∀ w2 f', K w2 f' → f' < muOf K w1 → C w2 := fun w2 f' h1 h2 => hC w2 ⟨f', h1⟩ (Nat.lt_of_le_of_lt (muOf_le h1) h2)
  clear hC
  generalize muOf K w1 = u at hf hC'
  clear hJ
  have y := s1.box 1 rfl
  simp [boxAt] at y
  cases o' with
  | nil =>
    simp -dsimp [go_sem, y]
    refine hR _ a' cw' ?_
    rw [← hcl]
    exact s1
  | cons k o' =>
    have hk := hM' k (by simp)
    simp only [List.length_cons] at hb'
    have wl : IntKind.i64.wrap (o'.length : Int) = o'.length := IntWalk.i64_in _ (by unfold maxBytes at hb'; omega)
    have xl : (o'.length : Int) < (o'.length : Int) + 1 := by omega
    have hz : 0 < o'.length + 1 := by omega
    have wk : IntKind.i64.wrap ((k : Int) - 1) = (k : Int) - 1 := IntWalk.i64_in _ (by omega)
    obtain ⟨g, eg, cg, fg⟩ := s1.rowAt 2 rfl (j := o'.length) (by simp [natV])
    have cg' : (natV (k :: o').reverse)[o'.length]'(by simp [natV]) = .int .i64 k := by simp [natV]
    rw [cg'] at cg
    subst eg
    have s2 := s1.setRow 2 rfl o'.length (.int .i64 ((k : Int) - 1))
    have e2 : (natV (k :: o').reverse).set o'.length (.int .i64 ((k : Int) - 1)) = natV o'.reverse ++ [Value.int .i64 ((k : Int) - 1)] := by
      simp [natV, List.map_append]
    rw [e2] at s2
    simp -dsimp [go_sem, y, wl, xl, cg, wk, fg]
    generalize w1.setCell ⟨g, o'.length, none⟩ (.int .i64 ((k : Int) - 1)) = w2 at s2 ⊢
    have y2 := s2.box 1 rfl
    simp [boxAt] at y2
    have hcw : o'.length + 1 ≤ cw' := (s2.rowSize 2 rfl).2.1
    refine SPL_intro (fun p1 => ?_) (fun p1 => ?_) <;> simp at p1
    · simp -dsimp [go_sem]
      refine hR _ (some ⟨g, 0, none⟩) cw' ?_
      have e3 : closeF o t = (t', (k - 1) :: o') := by rw [← hcl, closeF, if_pos (by omega)]
      rw [e3]
      have e4 : natV ((k - 1) :: o').reverse = natV o'.reverse ++ [Value.int .i64 ((k : Int) - 1)] := by
        simp [natV]; omega
      show St F w0 w2 [pgC 5 100 bb [] t', boxC ob 24 [.slice (some ⟨g, 0, none⟩) ((k - 1) :: o').length cw'], rowC 3 1 (some ⟨g, 0, none⟩) ((k - 1) :: o').length cw' (natV ((k - 1) :: o').reverse), X]
      rw [e4]
      exact s2
    · refine CALL_piece s2 0 rfl (fun F' ho _ => WriteString_ct ho (Or.inl ⟨rfl, rfl⟩) ⟨#[41]⟩ (by show t'.length + 1 ≤ _; omega)) ?_
      intro F3 v3 w3 hd hst
      have s3 := hst _ hd
      unfold tree_Text_1.b8_1
      have y3 := s3.box 1 rfl
      simp [boxAt] at y3
      have hcw' : o'.length ≤ cw' := by omega
      have s4 := s3.set 1 rfl 0 (.slice (some ⟨g, 0, none⟩) o'.length cw')
      have s5 := s4.popRow 2 (n := o'.length) (xs := natV o'.reverse) (last := [Value.int .i64 ((k : Int) - 1)]) rfl (by simp [natV])
      simp -dsimp [go_sem, y3, wl, xl, hcw']
      refine hC' _ o'.length ⟨t' ++ [41], o', some ⟨g, 0, none⟩, cw', rfl, ?_, fun j hj => hM' j (by simp [hj]), by simp; omega, s5⟩ (by simp at hf; omega)
      rw [← hcl, closeF, if_neg (by omega)]

theorem Text1_ok {W : World} {B bb ob xb nr T : Nat} {l : List Nd} {nm : Int → Txt} (hN : l.length ≤ 3000000000000) (hB : B ≤ W.heap.size) (hkd : ∀ x ∈ l, x.2.2.2.length * 8 ≤ maxBytes)
    (hx8 : W.cell? ⟨xb, 0, none⟩ = some (.slice (some ⟨nr, 0, none⟩) T T)) (hxs : xb < W.heap.size) (hnr : ∀ i : Nat, i < T → W.cell? ⟨nr, i, none⟩ = some (.string (BA (nm i)))) (hns : nr < W.heap.size) (hT : T ≤ 1000000)
    (h18 : ∀ s, (nm s).length ≤ 18) (hne : ∀ s, nm s ≠ []) :
    VisOk W B l (textC bb ob) (textV nm T l) ([], []) tree_Text_1.id [.pointer (some ⟨xb, 0, none⟩), .pointer (some ⟨bb, 0, none⟩), .pointer (some ⟨ob, 0, none⟩)] := by
  intro w L k s n r vx st hk hlk hnd hlt hok hvx
  have hrl := visit_lt hnd hlt
  have hsl : s.1.length + s.2.length ≤ 0 + 21 * r.length := looks_bound (fun s : Txt × List Nat => s.1.length + s.2.length) (fun s n s' h => (textV_len h18 hne h).1) r _ _ hlk
  have hol : s.2.length ≤ 0 + 1 * r.length := looks_bound (fun s : Txt × List Nat => s.2.length) (fun s n s' h => textV_olen h) r _ _ hlk
  have hs0 : s.2 ≠ [] → s.1 ≠ [] := looks_inv (fun s : Txt × List Nat => s.2 ≠ [] → s.1 ≠ []) (fun s n s' _ h _ => (textV_len h18 hne h).2) r _ _ (fun h => absurd rfl h) hlk
  have hle : ∀ k ∈ s.2, k ≤ 17600000000000 := looks_inv (fun s : Txt × List Nat => ∀ k ∈ s.2, k ≤ 17600000000000) (fun s n s' h0 h => textV_le (fun x hx => by have := hkd x hx; unfold maxBytes at this; omega) (by omega) h0 h) r _ _ (by simp) hlk
  have hBw : B ≤ w.heap.size := by have := st.chg.size; omega
  obtain ⟨F, ⟨a, cw⟩, si, hch, hback⟩ := st.inEx hk
  refine tree_Text_1.ct fun R hR => ?_
  unfold textV at hR
  have hxk : (l.getD n zN).2.2.2.length ≤ 17592186044416 := by
    by_cases hn : n < l.length
    · have := hkd _ (List.getElem_mem hn); unfold maxBytes at this; simp [hn]; omega
    · simp [hn, zN]
  obtain ⟨A, c, rfl, hkr, z1, z2, z3⟩ := nd_form hvx
  obtain ⟨t, o⟩ := s
  simp only at *
  generalize hx : l.getD n zN = x at *
  obtain ⟨sy, pr, tk, ks⟩ := x
  simp only at *
  have hsy : 0 ≤ sy := hok.1
  have s1 := si.alloc #[.int .i64 sy, .int .i64 pr, .int .i64 tk, .slice A ks.length c] 61
  have hc1 : Chg noB w (w.alloc (.cells #[.int .i64 sy, .int .i64 pr, .int .i64 tk, .slice A ks.length c] 61)) := (Chg.refl noB w).alloc _
  have rd : ∀ {w'}, Chg noB W w' → ∀ {p : Addr} {u}, W.cell? p = some u → p.block < W.heap.size → w'.cell? p = some u := fun {w'} hc {p} {u} hp hlt => (Chg.cell hc hlt id).trans hp
  have hW1 : Chg noB W (w.alloc (.cells #[.int .i64 sy, .int .i64 pr, .int .i64 tk, .slice A ks.length c] 61)) := hch _ _ s1
  have x1 := rd hW1 hx8 hxs
  unfold tree_Text_1.run
  simp -dsimp [go_sem, x1]
  clear x1
  generalize w.heap.size = q at s1 ⊢
  generalize w.alloc (.cells #[.int .i64 sy, .int .i64 pr, .int .i64 tk, .slice A ks.length c] 61) = w1 at s1 hc1 hW1 ⊢
  refine SPL_intro (fun p1 => ?_) (fun p1 => ?_) <;> simp at p1
  · refine hR _ _ ?_
    rw [if_neg (by omega)]
    exact ⟨rfl, hW1⟩
  · rw [if_pos p1] at hR
    unfold tree_Text_1.b9
    refine CALL_piece s1 0 rfl (fun F' ho _ => String_ct ho) ?_
    rintro F2 _ w2 ⟨rfl, hd2⟩ hst2
    have s2 := hst2 _ hd2
    have hR2 : ∀ w' a' cw', St F w w' [pgC 5 100 bb [] (stepN nm (sy, pr, tk, ks) (spaceT t o) o).1, boxC ob 24 [.slice a' (stepN nm (sy, pr, tk, ks) (spaceT t o) o).2.length cw'], rowC 3 1 a' (stepN nm (sy, pr, tk, ks) (spaceT t o) o).2.length cw' (natV (stepN nm (sy, pr, tk, ks) (spaceT t o) o).2.reverse), boxC q 61 [.int .i64 sy, .int .i64 pr, .int .i64 tk, .slice A ks.length c]] → R (.returned (.bool true)) w' := by
      intro w' a' cw' hs
      refine hR _ _ ⟨rfl, ?_⟩
      exact hback _ (fun x => [pgC 5 100 bb [] (stepN nm (sy, pr, tk, ks) (spaceT t o) o).1, boxC ob 24 [.slice x.1 (stepN nm (sy, pr, tk, ks) (spaceT t o) o).2.length x.2], rowC 3 1 x.1 (stepN nm (sy, pr, tk, ks) (spaceT t o) o).2.length x.2 (natV (stepN nm (sy, pr, tk, ks) (spaceT t o) o).2.reverse)]) (a', cw') (hs.take 3)
    clear hR hback
    have hspl : (spaceT t o).length ≤ t.length + 1 := by unfold spaceT; split <;> simp
    -- from the name on
    have b3 : ∀ w', St F w w' [pgC 5 100 bb [] (spaceT t o), boxC ob 24 [.slice a o.length cw], rowC 3 1 a o.length cw (natV o.reverse), boxC q 61 [.int .i64 sy, .int .i64 pr, .int .i64 tk, .slice A ks.length c]] →
        tree_Text_1.b3 R (.pointer (some ⟨xb, 0, none⟩)) (.pointer (some ⟨bb, 0, none⟩)) (.pointer (some ⟨ob, 0, none⟩)) (.pointer (some ⟨q, 0, none⟩)) w' := by
      intro w3 s3
      have hW3 := hch _ _ s3
      have x3 := rd hW3 hx8 hxs
      have y3 := s3.box 3 rfl
      simp [boxAt] at y3
      obtain ⟨j, rfl⟩ : ∃ j : Nat, sy = j := ⟨sy.toNat, by omega⟩
      have hj : j < T := by omega
      have xn := rd hW3 (hnr j hj) hns
      unfold tree_Text_1.b3
      simp -dsimp [go_sem, x3, y3, hj, xn]
      have hnl := h18 (j : Int)
      refine CALL_piece s3 0 rfl (fun F' ho _ => WriteString_ct ho (Or.inl ⟨rfl, rfl⟩) (BA (nm j)) (by rw [BA_size]; unfold maxBytes; omega)) ?_
      intro F4 v4 w4 hd4 hst4
      have s4 := hst4 _ hd4
      rw [tx_BA] at s4
      have y4 := s4.box 3 rfl
      simp [boxAt] at y4
      unfold tree_Text_1.b3_2
      simp -dsimp [go_sem, y4]
      refine SPL_intro (fun p4 => ?_) (fun p4 => ?_) <;> simp at p4
      · refine CALL_piece s4 0 rfl (fun F' ho _ => WriteString_ct ho (Or.inl ⟨rfl, rfl⟩) ⟨#[40]⟩ (by rw [List.length_append]; show _ + 1 ≤ _; unfold maxBytes; omega)) ?_
        intro F5 v5 w5 hd5 hst5
        have s5 := hst5 _ hd5
        have y5 := s5.box 3 rfl
        have u5 := s5.box 1 rfl
        simp [boxAt] at y5 u5
        have wk : IntKind.i64.wrap ((ks.length : Int) + 1) = (ks.length : Int) + 1 := IntWalk.i64_in _ (by omega)
        unfold tree_Text_1.b3_1
        simp -dsimp [go_sem, y5, u5, wk]
        refine s5.append1 2 rfl Try.underlying24 iInt' rfl (by omega) (news := [Value.int .i64 ((ks.length : Int) + 1)]) rfl (by simp [Value.oneCell']) (by unfold maxLen; omega) (by unfold maxBytes; omega) fun g6 cap w6 s6 => ?_
        have y6 := s6.box 1 rfl
        simp [boxAt] at y6
        have s7 := s6.set 1 rfl 0 (.slice (some ⟨g6, 0, none⟩) (o.length + 1) cap)
        simp -dsimp [go_sem, y6]
        have e7 : natV o.reverse ++ [Value.int .i64 ((ks.length : Int) + 1)] = natV ((ks.length + 1) :: o).reverse := by simp [natV]
        have s8 : St F w (w6.setCell ⟨ob, 0, none⟩ (.slice (some ⟨g6, 0, none⟩) (o.length + 1) cap)) [pgC 5 100 bb [] (spaceT t o ++ nm j ++ [40]), boxC ob 24 [.slice (some ⟨g6, 0, none⟩) ((ks.length + 1) :: o).length cap], rowC 3 1 (some ⟨g6, 0, none⟩) ((ks.length + 1) :: o).length cap (natV ((ks.length + 1) :: o).reverse), boxC q 61 [.int .i64 j, .int .i64 pr, .int .i64 tk, .slice A ks.length c]] := by
          rw [← e7]; exact s7
        refine close_ok s8 (fun i hi => ?_) ?_ fun w' a' cw' hs => hR2 w' a' cw' ?_
        · rcases List.mem_cons.1 hi with rfl | hi
          · omega
          · have := hle i hi; omega
        · simp only [List.length_append, List.length_cons, List.length_nil]
          unfold maxBytes; omega
        · unfold stepN; simp only; rw [if_pos p4]; exact hs
      · refine close_ok s4 (fun i hi => by have := hle i hi; omega) ?_ fun w' a' cw' hs => hR2 w' a' cw' ?_
        · rw [List.length_append]; unfold maxBytes; omega
        · unfold stepN; simp only; rw [if_neg (by omega)]; exact hs
    have y2 := s2.box 1 rfl
    simp [boxAt] at y2
    unfold tree_Text_1.b9_2
    simp -dsimp [go_sem, y2]
    refine SPL_intro (fun p2 => ?_) (fun p2 => ?_) <;> simp at p2
    · have ho : o ≠ [] := by intro e; subst e; simp at p2
      have ht := List.length_pos_iff.2 (hs0 ho)
      unfold tree_Text_1.b9_1
      simp -dsimp [go_sem]
      have hw : IntKind.i64.wrap (((BA t).size : Int) - 1) = (t.length : Int) - 1 := by rw [BA_size]; exact IntWalk.i64_in _ (by omega)
      have hsz : ((BA t).size : Int) = t.length := by rw [BA_size]
      rw [dif_pos (by rw [hw, hsz]; omega), RES_ok]
      have ew : (IntKind.i64.wrap (((BA t).size : Int) - 1)).toNat = t.length - 1 := by rw [hw]; omega
      simp only [ew, BA_get]
      obtain ⟨d, hd⟩ : ∃ d, t[t.length - 1]'(by omega) = d := ⟨_, rfl⟩
      have hlast : t.getLast? = some d := by rw [List.getLast?_eq_getElem?, List.getElem?_eq_getElem (by omega), hd]
      rw [hd]
      simp -dsimp [go_sem]
      unfold tree_Text_1.b10
      refine SPL_intro (fun p3 => ?_) (fun p3 => ?_) <;> simp at p3
      · have hne40 : t.getLast? ≠ some 40 := by
          rw [hlast]; intro e; injection e with e; subst e; simp at p3
        refine CALL_piece s2 0 rfl (fun F' ho _ => WriteString_ct ho (Or.inl ⟨rfl, rfl⟩) ⟨#[32]⟩ (by show t.length + 1 ≤ _; unfold maxBytes; omega)) ?_
        intro F3 v3 w3 hd3 hst3
        have s3 := hst3 _ hd3
        refine b3 _ ?_
        unfold spaceT
        rw [if_pos ⟨ho, hne40⟩]
        exact s3
      · have h40 : t.getLast? = some 40 := by
          rw [hlast]; congr 1
          have p3' : d.toNat = 40 := by omega
          exact UInt8.toNat_inj.1 p3'
        refine b3 _ ?_
        unfold spaceT
        rw [if_neg (by rw [h40]; simp)]
        exact s2
    · have ho : o = [] := by simpa using p2
      unfold tree_Text_1.b10
      simp -dsimp [go_sem]
      refine b3 _ ?_
      unfold spaceT
      rw [if_neg (by simp [ho])]
      exact s2
end Go.Proofs.Ytkacbjhiobnbfaa

/-
  tree: Text.
-/
namespace Go.Proofs.Ytkacbjhiobnbfaa
open Go.Px Go.Px.Scan Go.RowKit
set_option maxHeartbeats 1000000
set_option linter.unusedSimpArgs false
set_option linter.unusedVariables false
set_option maxRecDepth 100000
attribute [-go_sem] Builtin.append_ tree_Text.b3 tree_Text.b3_1 tree_Text.b1_1 tree_Text.b7_1

theorem iStr' : (Try.prog.info? 9).map (fun i => (i.zero, i.size, i.bytes)) = some (some (.string ⟨#[]⟩), 1, 16) := by kernel_rfl
theorem mkStrs (w : World) (n : Nat) (h : n ≤ 1000000) : (Instr.makeSlice 23 (.int .i64 n) (.int .i64 n)).run Try.prog w = .ok (.slice (some ⟨w.heap.size, 0, none⟩) n n) (w.alloc (.cells (Array.replicate n (Value.string ⟨#[]⟩)) 9)) := by
  obtain ⟨i0, hi, hz0, hz1, hz2⟩ := info_parts iStr'
  have := run_make (P := Try.prog) w 23 9 i0 _ Try.underlying23 hi hz0 .i64 .i64 n n (by omega) (by omega) (by rw [hz2]; omega) (by omega)
  rw [this]
  have e : madeCells (Value.string ⟨#[]⟩).cells ((n : Int).toNat * i0.size) = Array.replicate n (Value.string ⟨#[]⟩) := by
    rw [hz1, Nat.mul_one, Int.toNat_natCast]
    have := toList_madeCells_one (Value.string ⟨#[]⟩) n
    apply Array.toList_inj.1
    rw [Array.toList_replicate]
    exact this
  rw [e]
  simp
theorem pg_new {w : World} {bb : Nat} {F : Nat → Prop} (h : (boxC bb 100 [.pointer none, .slice none 0 0]).ok w F) : (pgC 5 100 bb [] []).ok w F := by
  obtain ⟨T, hT, hk⟩ := ((St.one h).nilTxt 5).all
  exact ⟨(.pointer none, none, 0), Or.inl rfl, T, fun i hi => ⟨(hT i hi).1 (hT i hi).2, (hT i hi).2⟩, hk⟩
def namesR (g : Gr) (T i : Nat) : List Value := (List.range T).map fun j : Nat => .string (if j < i then BA (symT g j) else ⟨#[]⟩)
theorem namesR_len (g : Gr) (T i : Nat) : (namesR g T i).length = T := by simp [namesR]
theorem namesR_zero (g : Gr) (T : Nat) : namesR g T 0 = List.replicate T (Value.string ⟨#[]⟩) := by
  apply List.ext_getElem
  · simp [namesR]
  · intro i h1 h2; simp [namesR]
theorem namesR_set (g : Gr) (T i : Nat) : (namesR g T i).set i (.string (BA (symT g i))) = namesR g T (i + 1) := by
  apply List.ext_getElem
  · simp [namesR]
  · intro j h1 h2
    simp only [namesR, List.getElem_set, List.getElem_map, List.getElem_range]
    by_cases e : i = j
    · subst e; simp
    · rw [if_neg e]
      by_cases e2 : j < i
      · rw [if_pos e2, if_pos (by omega)]
      · rw [if_neg e2, if_neg (by omega)]
theorem namesR_get (g : Gr) {T i j : Nat} (h : j < i) (hj : j < T) : (namesR g T i)[j]'(by rw [namesR_len]; exact hj) = .string (BA (symT g j)) := by
  simp [namesR, h]

noncomputable def textB (g : Gr) (l : List Nd) (root : Int) : Option Txt := if closedB g then (lookP l false (textV (symT g) (g.terms.length + g.nons.length) l) ([], []) root).map (·.1) else none
theorem TreeText_ct {w : World} {B : Nat} {vg nv : Value} {l : List Nd} {g : Gr} {root : Int} (hg : rGram.atN w B vg g) (h : (rSlice rNd).at1 w B nv l) (hB : B ≤ w.heap.size) (hN : l.length ≤ 3000000000000) (hkd : ∀ x ∈ l, x.2.2.2.length * 8 ≤ maxBytes) (hr : inI64 root) :
    Ct Try.prog tree_Text.id #[vg, nv, .int .i64 root] w fun v w' => v = (match textB g l root with | some t => .tuple #[.string (BA t), .int .i64 0] | none => .tuple #[.string ⟨#[]⟩, .int .i64 1]) ∧ Chg noB w w' := by
  refine tree_Text.ct fun R hR => ?_
  obtain ⟨A1, c1, A2, c2, A3, c3, A4, c4, rfl, h1, h2, h3, hst, h4, k1, k2, k3, k4⟩ := (rGram_open hg).ex
  have s0 := (St.refl noB w).alloc #[.slice A1 g.terms.length c1, .slice A2 g.nons.length c2, .slice A3 g.levels.length c3, .int .i64 g.start, .slice A4 g.prods.length c4] 27
  unfold tree_Text.run
  simp -dsimp [go_sem]
  generalize w.heap.size = q at s0 ⊢
  generalize w.alloc (.cells #[.slice A1 g.terms.length c1, .slice A2 g.nons.length c2, .slice A3 g.levels.length c3, .int .i64 g.start, .slice A4 g.prods.length c4] 27) = w1 at s0 ⊢
  refine CALL_of (Closed_ct (rGram_below hg (s0.chg.below hB fun _ _ => id)) (by have := s0.chg.size; omega)) ?_
  rintro _ w2 ⟨rfl, hc2⟩
  have s2 := s0.old hc2
  unfold textB at hR
  cases hcl : closedB g with
  | false =>
    simp -dsimp [go_sem]
    rw [hcl] at hR
    exact hR _ _ ⟨rfl, s2.chg⟩
  | true =>
    rw [hcl, if_pos rfl] at hR
    have hbd : EBound g := either_bound (Or.inr (closedB_iff.1 hcl))
    have y2 := s2.box 0 rfl
    simp [boxAt] at y2
    unfold tree_Text.b1_1
    have hT : g.terms.length + g.nons.length ≤ 130 := by have := hbd.t1; have := hbd.n1; omega
    have hlt : ∀ i : Nat, i < g.terms.length + g.nons.length → rowOk g [(i : Int)] = true := by
      intro i hi
      unfold rowOk
      rw [eitherB_iff.2 (Or.inr (closedB_iff.1 hcl))]
      simp [isSymP]; omega
    have hmk := mkStrs w2 (g.terms.length + g.nons.length) (by omega)
    rw [show ((g.terms.length + g.nons.length : Nat) : Int) = (g.terms.length : Int) + g.nons.length by omega] at hmk
    have wT : IntKind.i64.wrap ((g.terms.length : Int) + g.nons.length) = (g.terms.length : Int) + g.nons.length := IntWalk.i64_in _ (by omega)
    have s3 := s2.lit 9 1 (g.terms.length + g.nons.length) (Array.replicate (g.terms.length + g.nons.length) (Value.string ⟨#[]⟩)) (by unfold maxLen; omega) (by simp)
    have s4 := s3.alloc #[.slice (some ⟨w2.heap.size, 0, none⟩) (g.terms.length + g.nons.length) (g.terms.length + g.nons.length)] 23
    have hs3 : (w2.alloc (.cells (Array.replicate (g.terms.length + g.nons.length) (Value.string ⟨#[]⟩)) 9)).heap.size = w2.heap.size + 1 := by simp
    rw [hs3] at s4
    have k4 : ((w2.alloc (.cells (Array.replicate (g.terms.length + g.nons.length) (Value.string ⟨#[]⟩)) 9)).alloc (.cells #[.slice (some ⟨w2.heap.size, 0, none⟩) (g.terms.length + g.nons.length) (g.terms.length + g.nons.length)] 23)).cell? ⟨w2.heap.size + 1, 0, none⟩ = some (.slice (some ⟨w2.heap.size, 0, none⟩) (g.terms.length + g.nons.length) (g.terms.length + g.nons.length)) := (s4.box 2 rfl).1.1
    obtain ⟨T, hTe⟩ : ∃ T, g.terms.length + g.nons.length = T := ⟨_, rfl⟩
    simp -dsimp [go_sem, y2, wT, hmk, k4]
    clear k4 hs3
    have hTi : (g.terms.length : Int) + g.nons.length = T := by omega
    rw [hTe] at s4 hT hlt hR
    rw [hTi, hTe]
    generalize (w2.alloc (.cells (Array.replicate T (Value.string ⟨#[]⟩)) 9)).alloc (.cells #[.slice (some ⟨w2.heap.size, 0, none⟩) T T] 23) = w4 at s4 ⊢
    generalize w2.heap.size = nr at s4 ⊢
    rw [Array.toList_replicate, ← namesR_zero g] at s4
    refine tree_Text.l6_intro _ _ _ _ _ _ _ _ (fun y w' => ∃ i : Nat, y = .int .i64 i ∧ i ≤ T ∧ St noB w w' [boxC q 27 [.slice A1 g.terms.length c1, .slice A2 g.nons.length c2, .slice A3 g.levels.length c3, .int .i64 g.start, .slice A4 g.prods.length c4], rowC 9 1 (some ⟨nr, 0, none⟩) T T (namesR g T i), boxC (nr + 1) 23 [.slice (some ⟨nr, 0, none⟩) T T]]) (fun y _ => T - iv y) ⟨0, rfl, by omega, s4⟩ ?_
    rintro _ w5 ⟨i, rfl, hi, s5⟩ C hC
    simp -dsimp [go_sem]
    refine SPL_intro (fun p1 => ?_) (fun p1 => ?_) <;> simp at p1
    · have s6 := s5.old (Chg.refl noB _).drew
      have y6 := s5.box 0 rfl
      have u6 := s5.box 2 rfl
      simp [boxAt] at y6 u6
      simp -dsimp [go_sem, y6, u6]
      refine CALL_of (Symbol_ct (rGram_below hg (s6.chg.below hB fun _ _ => id)) (by have := s6.chg.size; omega) (by unfold inI64; omega)) ?_
      rintro _ w7 ⟨rfl, hc7⟩
      have s7 := s6.old hc7
      have u7 := s7.box 2 rfl
      simp [boxAt] at u7
      rw [hlt i p1, if_pos rfl, if_pos rfl]
      have wi : IntKind.i64.wrap ((i : Int) + 1) = (i : Int) + 1 := IntWalk.i64_in _ (by omega)
      obtain ⟨gn, en, cn, fn⟩ := s7.rowAt 1 rfl (j := i) (by rw [namesR_len]; exact p1)
      injection en with en; injection en with en; subst en
      have s8 := s7.setRow 1 rfl i (.string (BA (symT g i)))
      rw [namesR_set] at s8
      unfold tree_Text.b7_1
      simp -dsimp [go_sem, u7, wi, p1, cn, fn]
      exact hC _ _ ⟨i + 1, by simp, by omega, s8⟩ (by simp [iv]; omega)
    · have hiT : i = T := by omega
      subst hiT
      have u5 := s5.box 2 rfl
      have hnr : ∀ j : Nat, j < i → w5.cell? ⟨nr, j, none⟩ = some (.string (BA (symT g j))) := by
        intro j hj
        obtain ⟨g', e, c', _⟩ := s5.rowAt 1 rfl (j := j) (by rw [namesR_len]; exact hj)
        injection e with e; injection e with e; subst e
        rw [namesR_get g hj hj] at c'
        exact c'
      have hnrs : nr < w5.heap.size := by
        have hT0 : 0 < i := by have := hbd.t0; omega
        obtain ⟨F, ho, _⟩ := s5.get (k := 1) rfl
        obtain ⟨g', e, _, _, _, hl⟩ := row_at ho (j := 0) (by rw [namesR_len]; omega)
        injection e with e; injection e with e; subst e
        exact hl
      have hc5 := s5.chg
      have q1 := (St.refl noB w5).alloc #[.pointer none, .slice none 0 0] 100
      have q2 := (q1.alloc #[.slice none 0 0] 24).nilRow 3 1
      have hs : (w5.alloc (.cells #[.pointer none, .slice none 0 0] 100)).heap.size = w5.heap.size + 1 := by simp
      rw [hs] at q2
      unfold tree_Text.b3
      simp -dsimp [go_sem]
      generalize hw6 : (w5.alloc (.cells #[.pointer none, .slice none 0 0] 100)).alloc (.cells #[.slice none 0 0] 24) = w6 at q2 ⊢
      clear hw6 hs q1
      obtain ⟨bb, hbb⟩ : ∃ bb, w5.heap.size = bb := ⟨_, rfl⟩
      rw [hbb] at q2 ⊢
      have q3 := q2.turn (k := 0) rfl fun F ho => pg_new ho
      have q4 : St noB w5 w6 [textC bb (bb + 1) ([], [])] := St.pack (f := fun x : Option Addr × Nat => [pgC 5 100 bb [] [], boxC (bb + 1) 24 [.slice x.1 ([] : List Nat).length x.2], rowC 3 1 x.1 ([] : List Nat).length x.2 (natV ([] : List Nat).reverse)]) (none, 0) q3
      refine CALL_of (below_ct (ca := #[.pointer (some ⟨nr + 1, 0, none⟩), .pointer (some ⟨bb, 0, none⟩), .pointer (some ⟨bb + 1, 0, none⟩)]) (Rep.below h (hc5.below hB fun _ _ => id)) (by have := hc5.size; omega) hN hkd q4 (left_ok w5) (Text1_ok hN (by have := hc5.size; omega) hkd u5.1.1 u5.2.2 hnr hnrs (by omega) (symT_len hbd) (symT_ne g)) hr) ?_
      intro v w7 hp
      unfold tree_Text.b3_1
      cases hl : lookP l false (textV (symT g) i l) ([], []) root with
      | none =>
        rw [hl] at hp hR
        obtain ⟨rfl, hc7⟩ := hp
        simp -dsimp [go_sem]
        exact hR _ _ ⟨rfl, hc5.trans hc7⟩
      | some s =>
        rw [hl] at hp hR
        obtain ⟨rfl, s7⟩ := hp
        obtain ⟨⟨a, cw⟩, s8⟩ := s7.unpack
        simp -dsimp [go_sem]
        refine CALL_piece s8 0 rfl (fun F' ho _ => String_ct ho) ?_
        rintro F9 _ w9 ⟨rfl, hd9⟩ hst9
        have s9 := hst9 _ hd9
        exact hR _ _ ⟨rfl, hc5.trans s9.chg⟩
end Go.Proofs.Ytkacbjhiobnbfaa

