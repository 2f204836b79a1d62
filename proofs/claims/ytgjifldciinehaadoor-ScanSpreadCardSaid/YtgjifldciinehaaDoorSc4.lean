/-
  slices.ContainsFunc, slices.Contains, strings.HasPrefix at rows of strings.
-/
import Derived.Test.YtgjifldciinehaaDoorSc3
namespace Go.Proofs.YtgjifldciinehaaDoor
open Go.Px Go.Px.Scan Go.RowKit
set_option maxHeartbeats 1000000
set_option linter.unusedSimpArgs false

theorem sl_HasPrefix_ct (o p : ByteArray) (w : World) : Ct Tryd.prog internal_stringslite_HasPrefix.id #[.string o, .string p] w fun v w' => v = .bool (prefB o p) ∧ w = w' := by
  refine internal_stringslite_HasPrefix.ct fun R hR => ?_
  unfold internal_stringslite_HasPrefix.run internal_stringslite_HasPrefix.b1
  simp [go_sem]
  refine SPL_intro (fun h => ?_) (fun h => ?_) <;> simp at h
  · simp [go_sem, h]
    exact hR _ _ ⟨by unfold prefB; rw [decide_eq_true h, Bool.true_and], rfl⟩
  · exact hR _ _ ⟨by simp [prefB, show ¬ p.size ≤ o.size by omega], rfl⟩

theorem HasPrefix_ct (o p : ByteArray) (w : World) : Ct Tryd.prog strings_HasPrefix.id #[.string o, .string p] w fun v w' => v = .bool (prefB o p) ∧ w = w' := by
  refine strings_HasPrefix.ct fun R hR => ?_
  unfold strings_HasPrefix.run strings_HasPrefix.b1
  refine CALL_of (sl_HasPrefix_ct o p w) ?_
  rintro _ _ ⟨rfl, rfl⟩
  exact hR _ _ ⟨rfl, rfl⟩

def idx {α : Type} (q : α → Bool) : List α → Int
  | [] => -1
  | x :: l => if q x then 0 else if idx q l = -1 then -1 else idx q l + 1

theorem idx_ge {α : Type} (q : α → Bool) : ∀ l, -1 ≤ idx q l
  | [] => Int.le_refl _
  | x :: l => by unfold idx; have := idx_ge q l; split <;> (try split) <;> omega

theorem idx_any {α : Type} (q : α → Bool) : ∀ l, decide (0 ≤ idx q l) = l.any q
  | [] => rfl
  | x :: l => by
    have h := idx_any q l
    have hg := idx_ge q l
    unfold idx
    rw [List.any_cons, ← h]
    cases q x
    · by_cases h1 : idx q l = -1
      · simp [h1]
      · simp [h1]; omega
    · simp

theorem idx_at {α : Type} (q : α → Bool) : ∀ (l : List α) (k : Nat) (hk : k < l.length), (∀ i (_ : i < k), ∀ x, l[i]? = some x → q x = false) → q (l[k]) = true → idx q l = k
  | x :: l, 0, _, _, h => by unfold idx; simp at h; rw [if_pos h]; rfl
  | x :: l, k + 1, hk, hn, h => by
    have := idx_at q l k (by simpa using hk) (fun i hi y hy => hn (i + 1) (by omega) y (by simpa using hy)) (by simpa using h)
    unfold idx
    have h0 := hn 0 (by omega) x rfl
    rw [h0, this]
    have hne : ¬ ((k : Int) = -1) := by omega
    simp [hne]

theorem idx_no {α : Type} (q : α → Bool) : ∀ (l : List α), (∀ (i : Nat) (x : α), l[i]? = some x → q x = false) → idx q l = -1
  | [], _ => rfl
  | x :: l, hn => by
    have := idx_no q l (fun i y hy => hn (i + 1) y (by simpa using hy))
    unfold idx
    rw [hn 0 x rfl, this]
    rfl

theorem IndexFunc_ct {l : List ByteArray} {A : Option Addr} {c B : Nat} {g : FuncId} {cap : Array Value} {q : ByteArray → Bool} {I : World → Prop} (hl : l.length ≤ maxLen)
    (hs : ∀ w, I w → (rSlice rStr).at1 w B (.slice A l.length c) l) (hf : ∀ w, I w → ∀ o ∈ l, Ct Tryd.prog g (.string o :: cap.toList).toArray w fun v w' => v = .bool (q o) ∧ I w') {w : World} (hw : I w) :
    Ct Tryd.prog slices_IndexFunc_string_string.id #[.slice A l.length c, .func (.func g) #[] cap] w fun v w' => v = .int .i64 (idx q l) ∧ I w' := by
  refine slices_IndexFunc_string_string.ct fun R hR => ?_
  unfold slices_IndexFunc_string_string.run slices_IndexFunc_string_string.b1 slices_IndexFunc_string_string.b4
  simp [go_sem]
  refine slices_IndexFunc_string_string.l6_intro _ _ _ _ _ _ (fun x w1 => ∃ k : Nat, x = .int .i64 k ∧ k ≤ l.length ∧ I w1 ∧ ∀ i (_ : i < k), ∀ x, l[i]? = some x → q x = false) (fun x _ => l.length - iv x) ⟨0, rfl, by omega, hw, fun i hi => by omega⟩ ?_
  rintro _ w1 ⟨k, rfl, hk, h1, hno⟩ C hC
  unfold slices_IndexFunc_string_string.b7
  simp [go_sem]
  refine SPL_intro (fun h => ?_) (fun h => ?_) <;> simp at h
  · obtain ⟨b, o, rfl, hb, hc, hm⟩ := strs_at (hs w1 h1) h
    simp [go_sem, hc, h]
    refine CALLY_of (hf w1 h1 l[k] (List.getElem_mem h)) ?_
    rintro _ w2 ⟨rfl, h2⟩
    refine SPL_intro (fun h3 => ?_) (fun h3 => ?_)
    · exact hR _ _ ⟨by rw [idx_at q l k h hno h3], h2⟩
    · simp [go_sem, wrap_succ h hl]
      refine hC _ _ ⟨k + 1, rfl, h, h2, fun i hi x hx => ?_⟩ (by simp [iv]; omega)
      rcases Nat.lt_or_ge i k with h4 | h4
      · exact hno i h4 x hx
      · obtain rfl : i = k := by omega
        rw [List.getElem?_eq_getElem h] at hx
        cases hx; exact h3
  · unfold slices_IndexFunc_string_string.b3
    refine hR _ _ ⟨?_, h1⟩
    rw [idx_no q l (fun i x hx => hno i (by have := (List.getElem?_eq_some_iff.1 hx).1; omega) x hx)]

theorem ContainsFunc_ct {l : List ByteArray} {A : Option Addr} {c B : Nat} {g : FuncId} {cap : Array Value} {q : ByteArray → Bool} {I : World → Prop} (hl : l.length ≤ maxLen)
    (hs : ∀ w, I w → (rSlice rStr).at1 w B (.slice A l.length c) l) (hf : ∀ w, I w → ∀ o ∈ l, Ct Tryd.prog g (.string o :: cap.toList).toArray w fun v w' => v = .bool (q o) ∧ I w') {w : World} (hw : I w) :
    Ct Tryd.prog slices_ContainsFunc_string_string.id #[.slice A l.length c, .func (.func g) #[] cap] w fun v w' => v = .bool (l.any q) ∧ I w' := by
  refine slices_ContainsFunc_string_string.ct fun R hR => ?_
  unfold slices_ContainsFunc_string_string.run slices_ContainsFunc_string_string.b1
  refine CALL_of (IndexFunc_ct hl hs hf hw) ?_
  rintro _ w1 ⟨rfl, h1⟩
  have := idx_any q l
  generalize idx q l = n at *
  simp [go_sem]
  exact hR _ _ ⟨by rw [this], h1⟩

theorem Index_ct {l : List ByteArray} {A : Option Addr} {c B : Nat} {w : World} (hl : l.length ≤ maxLen) (hs : (rSlice rStr).at1 w B (.slice A l.length c) l) (p : ByteArray) :
    Ct Tryd.prog slices_Index_string_string.id #[.slice A l.length c, .string p] w fun v w' => v = .int .i64 (idx (fun o => p.toList == o.toList) l) ∧ w = w' := by
  refine slices_Index_string_string.ct fun R hR => ?_
  unfold slices_Index_string_string.run slices_Index_string_string.b1 slices_Index_string_string.b4
  simp [go_sem]
  refine slices_Index_string_string.l6_intro _ _ _ _ _ _ (fun x w1 => ∃ k : Nat, x = .int .i64 k ∧ k ≤ l.length ∧ w = w1 ∧ ∀ i (_ : i < k), ∀ x, l[i]? = some x → (p.toList == x.toList) = false) (fun x _ => l.length - iv x) ⟨0, rfl, by omega, rfl, fun i hi => by omega⟩ ?_
  rintro _ _ ⟨k, rfl, hk, rfl, hno⟩ C hC
  unfold slices_Index_string_string.b7
  simp [go_sem]
  refine SPL_intro (fun h => ?_) (fun h => ?_) <;> simp at h
  · obtain ⟨b, o, rfl, hb, hc, hm⟩ := strs_at hs h
    simp only [go_sem, hc, h, decide_true]
    simp [go_sem, hc, h]
    refine SPL_intro (fun h3 => ?_) (fun h3 => ?_)
    · exact hR _ _ ⟨by rw [idx_at _ l k h hno (by simpa using h3)], rfl⟩
    · simp [go_sem, wrap_succ h hl]
      refine hC _ _ ⟨k + 1, rfl, h, rfl, fun i hi x hx => ?_⟩ (by simp [iv]; omega)
      rcases Nat.lt_or_ge i k with h4 | h4
      · exact hno i h4 x hx
      · obtain rfl : i = k := by omega
        rw [List.getElem?_eq_getElem h] at hx
        cases hx; simpa using h3
  · unfold slices_Index_string_string.b3
    refine hR _ _ ⟨?_, rfl⟩
    rw [idx_no _ l (fun i x hx => hno i (by have := (List.getElem?_eq_some_iff.1 hx).1; omega) x hx)]

theorem Contains_ct {l : List ByteArray} {A : Option Addr} {c B : Nat} {w : World} (hl : l.length ≤ maxLen) (hs : (rSlice rStr).at1 w B (.slice A l.length c) l) (p : ByteArray) :
    Ct Tryd.prog slices_Contains_string_string.id #[.slice A l.length c, .string p] w fun v w' => v = .bool (l.any fun o => p.toList == o.toList) ∧ w = w' := by
  refine slices_Contains_string_string.ct fun R hR => ?_
  unfold slices_Contains_string_string.run slices_Contains_string_string.b1
  refine CALL_of (Index_ct hl hs p) ?_
  rintro _ _ ⟨rfl, rfl⟩
  have := idx_any (fun o : ByteArray => p.toList == o.toList) l
  generalize idx (fun o : ByteArray => p.toList == o.toList) l = n at *
  simp [go_sem]
  exact hR _ _ ⟨by rw [this], rfl⟩
end Go.Proofs.YtgjifldciinehaaDoor
