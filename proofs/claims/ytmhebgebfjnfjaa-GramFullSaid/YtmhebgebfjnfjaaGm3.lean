/-
  A builder's names.
-/
import Derived.Test.YtmhebgebfjnfjaaGm2
namespace Go.Px.Scan
open Go.Px
/-- The place of a text in a list; its length where it isn't there. -/
def posN : List ByteArray → ByteArray → Nat
  | [], _ => 0
  | x :: r, s => if x = s then 0 else posN r s + 1
theorem posN_le (l : List ByteArray) (s : ByteArray) : posN l s ≤ l.length := by
  induction l with
  | nil => exact Nat.le_refl _
  | cons x r ih => unfold posN; split <;> simp; omega
theorem posN_in {l : List ByteArray} {s : ByteArray} (h : s ∈ l) : posN l s < l.length ∧ l[posN l s]? = some s := by
  induction l with
  | nil => cases h
  | cons x r ih =>
    unfold posN
    by_cases hx : x = s
    · rw [if_pos hx]; simp [hx]
    · rw [if_neg hx]
      have := ih (by rcases List.mem_cons.1 h with h | h; exact absurd h.symm hx; exact h)
      exact ⟨by simp; exact this.1, by simpa using this.2⟩
theorem posN_no {l : List ByteArray} {s : ByteArray} (h : s ∉ l) : posN l s = l.length := by
  induction l with
  | nil => rfl
  | cons x r ih =>
    unfold posN
    simp at h
    rw [if_neg (fun e => h.1 e.symm), ih h.2]; rfl
theorem posN_iff {l : List ByteArray} {s : ByteArray} : posN l s < l.length ↔ s ∈ l := by
  constructor
  · intro h
    exact Classical.byContradiction fun h2 => by rw [posN_no h2] at h; omega
  · exact fun h => (posN_in h).1
theorem posN_snoc (l : List ByteArray) (x s : ByteArray) : posN (l ++ [x]) s = if posN l s < l.length then posN l s else if x = s then l.length else l.length + 1 := by
  induction l with
  | nil => simp [posN]
  | cons y r ih =>
    have e1 : posN (y :: (r ++ [x])) s = if y = s then 0 else posN (r ++ [x]) s + 1 := rfl
    have e2 : posN (y :: r) s = if y = s then 0 else posN r s + 1 := rfl
    rw [List.cons_append, e1, e2, ih]
    by_cases hy : y = s
    · simp [hy]
    · simp only [if_neg hy, List.length_cons]
      by_cases h : posN r s < r.length
      · have h2 : posN r s + 1 < r.length + 1 := by omega
        simp only [if_pos h, if_pos h2]
      · have h2 : ¬ posN r s + 1 < r.length + 1 := by omega
        simp only [if_neg h, if_neg h2]
        split <;> rfl
/-- A text's handle; 0: it has none. -/
def posH (l : List ByteArray) (s : ByteArray) : Int := if posN l s < l.length then (posN l s : Int) + 1 else 0
theorem posH_zero {l : List ByteArray} {s : ByteArray} : posH l s = 0 ↔ s ∉ l := by
  unfold posH
  split
  · rename_i h; constructor
    · intro h2; omega
    · intro h2; exact absurd (posN_iff.1 h) h2
  · rename_i h; exact ⟨fun _ h2 => h (posN_iff.2 h2), fun _ => rfl⟩
theorem posH_snoc {l : List ByteArray} {x : ByteArray} (hx : x ∉ l) (s : ByteArray) : posH (l ++ [x]) s = if s = x then (l.length : Int) + 1 else posH l s := by
  unfold posH
  rw [posN_snoc, List.length_append]
  by_cases hs : s = x
  · subst hs
    have : ¬ posN l s < l.length := fun h => hx (posN_iff.1 h)
    simp [this]
  · have : ¬ x = s := fun e => hs e.symm
    have hle := posN_le l s
    by_cases h : posN l s < l.length
    · simp [h, hs]; intro h2; omega
    · simp [h, hs, this]
end Go.Px.Scan

namespace Go.Proofs.Ytmhebgebfjnfjaa
open Go.Px Go.Px.Scan Go.RowKit
set_option maxHeartbeats 1000000
set_option linter.unusedSimpArgs false

theorem mapTy : MapTy Try.prog kStr 41 9 3 where
  tm := Try.underlying41
  te := Try.underlying3
  keyed := Maps.string_keyed Try.underlying9
  key a ha := WideMaps.keyOf_string_mk Try.underlying9 ha
  zero w := by simp [go_sem]

/-- What is owned, with its block's mark. -/
def Row (w : World) (T : Nat → Nat) (tag : Nat) (e size : Nat) (v : Value) (n : Nat) (xs : List Value) : Prop := w.ownsRow 0 e size v n xs ∧ ∀ i, v.ownBlock = some i → T i = tag

theorem ownsRow_keep {F : Nat → Prop} {w w' : World} {base e size : Nat} {v : Value} {n : Nat} {xs : List Value} (h : w.ownsRow base e size v n xs) (hc : Chg F w w') (hF : ∀ i, v.ownBlock = some i → ¬ F i) : w'.ownsRow base e size v n xs := by
  refine ⟨h.1, ?_⟩
  rcases h.2 with h2 | ⟨g, cap, cur, hv, hb, hg, hr⟩
  · exact Or.inl h2
  · refine Or.inr ⟨g, cap, cur, hv, hb, ?_, hr⟩
    rw [hc.block g (Array.getElem?_eq_some_iff.1 hg).1 (hF g (by rw [hv]; rfl))]
    exact hg
theorem Row.keep {F : Nat → Prop} {w w' : World} {T T' : Nat → Nat} {tag e size : Nat} {v : Value} {n : Nat} {xs : List Value} (h : Row w T tag e size v n xs) (hc : Chg F w w') (hF : ∀ i, T i = tag → ¬ F i) (hT : ∀ i, i < w.heap.size → T' i = T i) : Row w' T' tag e size v n xs :=
  ⟨ownsRow_keep h.1 hc fun i hi => hF i (h.2 i hi), fun i hi => by rw [hT i (ownsRow_block h.1 hi).2]; exact h.2 i hi⟩

/-- Names in the builder's block, from the o-th cell on. -/
structure Nm (w : World) (T : Nat → Nat) (b o tx tm : Nat) (v m : Value) (l : List ByteArray) : Prop where
  c0 : w.cell? ⟨b, o, none⟩ = some v
  c1 : w.cell? ⟨b, o + 1, none⟩ = some m
  f0 : w.frozen? ⟨b, o, none⟩ = false
  f1 : w.frozen? ⟨b, o + 1, none⟩ = false
  row : Row w T tx 9 1 v l.length (l.map Value.string)
  map : MapOf Try.prog kStr 9 3 w m l.length (posH l)
  tag : ∀ i, m = .map (some i) → T i = tm

theorem Nm.keep {F : Nat → Prop} {w w' : World} {T T' : Nat → Nat} {b o tx tm : Nat} {v m : Value} {l : List ByteArray} (h : Nm w T b o tx tm v m l) (hc : Chg F w w') (hb : ¬ F b) (hx : ∀ i, T i = tx → ¬ F i) (hm : ∀ i, T i = tm → ¬ F i) (hT : ∀ i, i < w.heap.size → T' i = T i) : Nm w' T' b o tx tm v m l :=
  ⟨hc.at h.c0 hb, hc.at h.c1 hb, (hc.frozen (p := ⟨b, o, none⟩) (World.block_lt_of_cell? _ _ h.c0) hb).trans h.f0, (hc.frozen (p := ⟨b, o + 1, none⟩) (World.block_lt_of_cell? _ _ h.c1) hb).trans h.f1,
    h.row.keep hc hx hT, h.map.chg hc fun i hi => hm i (h.tag i hi), fun i hi => by rw [hT i (h.map.lt hi)]; exact h.tag i hi⟩

theorem own_shape {w : World} {base e size : Nat} {v : Value} {n : Nat} {xs : List Value} (h : w.ownsRow base e size v n xs) : ∃ a c, v = .slice a n c := by
  rcases h.2 with ⟨h1, h2⟩ | ⟨g, cap, cur, he, _⟩
  · exact ⟨none, 0, by rw [h1, h2]⟩
  · exact ⟨_, _, he⟩
theorem row_len {w : World} {T : Nat → Nat} {tag e size : Nat} {v : Value} {n : Nat} {xs : List Value} (h : Row w T tag e size v n xs) : ∃ a c, v = .slice a n c := own_shape h.1

theorem find_ct {w : World} {T : Nat → Nat} {b o tx tm : Nat} {v m : Value} {l : List ByteArray} (h : Nm w T b o tx tm v m l) {s : ByteArray} (hs : s.size ≤ maxLen) : Ct Try.prog gram_names_find.id #[.pointer (some ⟨b, o, none⟩), .string s] w fun r w' => r = .int .i64 (posH l s) ∧ w = w' := by
  refine gram_names_find.ct fun R hR => ?_
  unfold gram_names_find.run gram_names_find.b1
  have hl := h.map.lookup mapTy s hs
  simp [go_sem, h.c0, h.c1]
  rw [show (Value.string s) = kStr.val s from rfl, hl, RES_ok]
  exact hR _ _ ⟨rfl, rfl⟩

theorem size_ct {w : World} {T : Nat → Nat} {b o tx tm : Nat} {v m : Value} {l : List ByteArray} (h : Nm w T b o tx tm v m l) : Ct Try.prog gram_names_size.id #[.pointer (some ⟨b, o, none⟩)] w fun r w' => r = .int .i64 l.length ∧ w = w' := by
  refine gram_names_size.ct fun R hR => ?_
  obtain ⟨a, c, hv⟩ := row_len h.row
  have hc0 := h.c0
  rw [hv] at hc0
  unfold gram_names_size.run gram_names_size.b1
  simp [go_sem, hc0]
  exact hR _ _ ⟨rfl, rfl⟩
end Go.Proofs.Ytmhebgebfjnfjaa
