/-
  Grammars, plainly: which of them may be.
-/
import Derived.Test.YtmhebgebfjnfjaaScSpec3
namespace Go.Px.Scan
open Go.Px

/-- A grammar. -/
structure Gr where
  terms : List (ByteArray × Int)
  nons : List ByteArray
  levels : List Int
  start : Int
  prods : List (Int × List Int × Int)

def addL (acc : List Int) (x : Int) : List Int := if x ∈ acc then acc else acc ++ [x]
/-- The Lefts, in the order in which they first come. -/
def leftsOf (l : List (Int × List Int × Int)) : List Int := l.foldl (fun a p => addL a p.1) []

structure TermOk (g : Gr) (t : ByteArray × Int) : Prop where
  name : TermP t.1
  lo : 0 ≤ t.2
  hi : t.2 ≤ g.levels.length

structure SymsP (g : Gr) (a : Nat) : Prop where
  t0 : g.terms.head? = some (⟨#[]⟩, 0)
  n0 : a < g.nons.length
  t1 : g.terms.length ≤ 65
  n1 : g.nons.length ≤ 64 + a
  sum : g.terms.length - 1 + (g.nons.length - a) ≤ 64
  terms : ∀ t ∈ g.terms.tail, TermOk g t
  levels : ∀ i (h : i < g.levels.length), 1 ≤ g.levels[i] ∧ g.levels[i] ≤ 3 ∧ ∃ t ∈ g.terms.tail, t.2 = (i : Int) + 1
  tnd : (g.terms.tail.map (·.1)).Nodup
  nnd : (g.nons.drop a).Nodup
  nnam : ∀ s ∈ g.nons.drop a, NameP s

structure ProdOk (g : Gr) (a : Nat) (p : Int × List Int × Int) : Prop where
  l0 : (g.terms.length + a : Int) ≤ p.1
  l1 : p.1 < (g.terms.length + g.nons.length : Int)
  v0 : 0 ≤ p.2.2
  v1 : p.2.2 ≤ g.levels.length
  right : ∀ s ∈ p.2.1, 1 ≤ s ∧ s < (g.terms.length + g.nons.length : Int) ∧ ((g.terms.length : Int) ≤ s → (g.terms.length + a : Int) ≤ s)

structure ProdsP (g : Gr) (a : Nat) : Prop where
  c0 : a < g.prods.length
  c1 : g.prods.length ≤ 96 + a
  each : ∀ p ∈ g.prods.drop a, ProdOk g a p
  lefts : (leftsOf (g.prods.drop a)).length + a = g.nons.length
  s0 : (g.terms.length + a : Int) ≤ g.start
  s1 : g.start < (g.terms.length + g.nons.length : Int)

/-- May a grammar be? -/
structure ValidP (g : Gr) : Prop where
  syms : SymsP g 0
  prods : ProdsP g 0
  sorted : (leftsOf g.prods).Pairwise (· ≤ ·)

/-- Is it one with the added production? -/
structure ClosedP (g : Gr) : Prop where
  first : g.nons.head? = some ⟨#[]⟩
  syms : SymsP g 1
  prods : ProdsP g 1
  added : g.prods.head? = some ((g.terms.length : Int), [g.start], 0)

open Classical in
noncomputable def symB (g : Gr) (a : Nat) : Bool := decide (SymsP g a)
open Classical in
noncomputable def prodB (g : Gr) (a : Nat) : Bool := decide (ProdsP g a)
open Classical in
noncomputable def validB (g : Gr) : Bool := decide (ValidP g)
open Classical in
noncomputable def closedB (g : Gr) : Bool := decide (ClosedP g)
theorem symB_iff {g : Gr} {a : Nat} : symB g a = true ↔ SymsP g a := @decide_eq_true_iff _ (_)
theorem prodB_iff {g : Gr} {a : Nat} : prodB g a = true ↔ ProdsP g a := @decide_eq_true_iff _ (_)
theorem validB_iff {g : Gr} : validB g = true ↔ ValidP g := @decide_eq_true_iff _ (_)
theorem closedB_iff {g : Gr} : closedB g = true ↔ ClosedP g := @decide_eq_true_iff _ (_)
theorem bool_no {b : Bool} {p : Prop} (i : b = true ↔ p) (h : ¬ p) : b = false := by
  cases b
  · rfl
  · exact absurd (i.1 rfl) h
theorem bool_eq {a b : Bool} (h : a = true ↔ b = true) : a = b := Bool.eq_iff_iff.2 h

/-! ### Lefts -/
theorem addL_nodup {acc : List Int} (h : acc.Nodup) (x : Int) : (addL acc x).Nodup := by
  unfold addL
  split
  · exact h
  · rename_i hx
    refine List.nodup_append.2 ⟨h, by simp, fun a ha b hb => ?_⟩
    simp at hb
    subst hb
    intro e; subst e; exact hx ha
theorem addL_mem {acc : List Int} {x y : Int} : y ∈ addL acc x ↔ y ∈ acc ∨ y = x := by
  unfold addL
  split
  · rename_i hx
    exact ⟨Or.inl, fun h => h.elim id fun e => e ▸ hx⟩
  · simp
theorem leftsOf_snoc (l : List (Int × List Int × Int)) (p : Int × List Int × Int) : leftsOf (l ++ [p]) = addL (leftsOf l) p.1 := by simp [leftsOf]
theorem foldl_lefts (l : List (Int × List Int × Int)) : ∀ acc : List Int, acc.Nodup → (l.foldl (fun a p => addL a p.1) acc).Nodup ∧ ∀ y, y ∈ l.foldl (fun a p => addL a p.1) acc ↔ y ∈ acc ∨ ∃ p ∈ l, p.1 = y := by
  induction l with
  | nil => intro acc h; exact ⟨h, fun y => by simp⟩
  | cons p r ih =>
    intro acc h
    obtain ⟨h1, h2⟩ := ih (addL acc p.1) (addL_nodup h _)
    refine ⟨h1, fun y => ?_⟩
    rw [List.foldl_cons, h2, addL_mem]
    simp [or_assoc, eq_comm]
theorem leftsOf_nodup (l : List (Int × List Int × Int)) : (leftsOf l).Nodup := (foldl_lefts l [] (by simp)).1
theorem leftsOf_mem {l : List (Int × List Int × Int)} {y : Int} : y ∈ leftsOf l ↔ ∃ p ∈ l, p.1 = y := by
  have := (foldl_lefts l [] (by simp)).2 y
  simpa [leftsOf] using this

/-! ### Counting -/
theorem nodup_le {α : Type} [DecidableEq α] : ∀ {l m : List α}, l.Nodup → (∀ x ∈ l, x ∈ m) → l.length ≤ m.length
  | [], _, _, _ => Nat.zero_le _
  | x :: l, m, h, hs => by
    rw [List.nodup_cons] at h
    have hx := hs x (by simp)
    have := nodup_le (l := l) (m := m.erase x) h.2 fun y hy => (List.mem_erase_of_ne (fun e => h.1 (by rw [← e]; exact hy))).2 (hs y (by simp [hy]))
    rw [List.length_erase_of_mem hx] at this
    have hpos : 0 < m.length := List.length_pos_of_mem hx
    simp
    omega

/-- A row of numbers, each one more. -/
theorem sorted_iff {l : List Int} (hnd : l.Nodup) {t : Int} (hb : ∀ x ∈ l, t ≤ x ∧ x < t + l.length) : l.Pairwise (· ≤ ·) ↔ ∀ i (h : i < l.length), l[i] = t + i := by
  constructor
  · intro hp
    have hlt : ∀ i j (hi : i < j) (hj : j < l.length), l[i] < l[j] := by
      intro i j hi hj
      have h1 := List.pairwise_iff_getElem.1 hp i j (by omega) hj hi
      have h2 := List.pairwise_iff_getElem.1 hnd i j (by omega) hj hi
      have h3 : l[i] ≠ l[j] := h2
      omega
    have lo : ∀ i (h : i < l.length), t + i ≤ l[i] := by
      intro i
      induction i with
      | zero => intro h; have := (hb l[0] (List.getElem_mem h)).1; simpa using this
      | succ i ih =>
        intro h
        have h1 := ih (by omega)
        have h2 := hlt i (i + 1) (by omega) h
        omega
    have hi' : ∀ d i (h : i < l.length), i + d + 1 = l.length → l[i] ≤ t + i := by
      intro d
      induction d with
      | zero => intro i h e; have := (hb l[i] (List.getElem_mem h)).2; omega
      | succ d ih =>
        intro i h e
        have h1 := ih (i + 1) (by omega) (by omega)
        have h2 := hlt i (i + 1) (by omega) (by omega)
        omega
    intro i h
    have := lo i h
    have := hi' (l.length - i - 1) i h (by omega)
    omega
  · intro h
    refine List.pairwise_iff_getElem.2 fun i j hi hj hij => ?_
    rw [h i hi, h j hj]; omega

theorem ProdsP.row {g : Gr} (h : ProdsP g 0) : (leftsOf g.prods).Pairwise (· ≤ ·) ↔ ∀ i (hi : i < (leftsOf g.prods).length), (leftsOf g.prods)[i] = (g.terms.length : Int) + i := by
  have hl := h.lefts
  rw [List.drop_zero] at hl
  refine sorted_iff (leftsOf_nodup _) fun x hx => ?_
  obtain ⟨p, hp, rfl⟩ := leftsOf_mem.1 hx
  have := h.each p (by simpa using hp)
  have h1 := this.l0
  have h2 := this.l1
  omega

/-- No more levels than terminals. -/
theorem SymsP.lev {g : Gr} {a : Nat} (h : SymsP g a) : g.levels.length ≤ 64 := by
  have h1 : ((List.range g.levels.length).map fun i : Nat => (i : Int) + 1).length ≤ (g.terms.tail.map (·.2)).length := by
    refine nodup_le ?_ fun x hx => ?_
    · refine List.pairwise_map.2 ?_
      refine List.Pairwise.imp ?_ (List.nodup_range (n := g.levels.length))
      intro a b hab e
      exact hab (by omega)
    · obtain ⟨i, hi, rfl⟩ := List.mem_map.1 hx
      obtain ⟨_, _, t, ht, e⟩ := h.levels i (by simpa using hi)
      exact List.mem_map.2 ⟨t, ht, e⟩
  have := h.t1
  simp at h1
  omega
end Go.Px.Scan
