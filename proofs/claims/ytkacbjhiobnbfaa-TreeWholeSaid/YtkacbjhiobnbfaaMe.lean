/-
  Texts of this claim: ShP, Sh1, Sh2, Sh3a, Sh4.
-/
import Derived.Test.YtkacbjhiobnbfaaMa
import Derived.Test.YtkacbjhiobnbfaaPa
import Derived.Test.YtkacbjhiobnbfaaMb
import Derived.Test.YtkacbjhiobnbfaaGd
import Derived.Lib.Builder
import Derived.Lib.UnsafeStr
/-
  What show tells, plainly.
-/
namespace Go.Px.Scan
open Go.Px

def EitherP (g : Gr) : Prop := ValidP g ∨ ClosedP g
open Classical in
noncomputable def eitherB (g : Gr) : Bool := validB g || closedB g
theorem eitherB_iff {g : Gr} : eitherB g = true ↔ EitherP g := by
  unfold eitherB EitherP
  rw [Bool.or_eq_true, validB_iff, closedB_iff]

def nameOf (g : Gr) (s : Int) : ByteArray := (g.terms.getD s.toNat (⟨#[]⟩, 0)).1
def nonAt (g : Gr) (s : Int) : ByteArray := g.nons.getD (s - g.terms.length).toNat ⟨#[]⟩
def levelAt (g : Gr) (s : Int) : Int := (g.terms.getD s.toNat (⟨#[]⟩, 0)).2
def tEnd : Txt := [36, 101, 110, 100]
def tStart : Txt := [36, 115, 116, 97, 114, 116]
/-- A symbol's text. -/
def symT (g : Gr) (s : Int) : Txt :=
  if s = 0 then tEnd
  else if s < g.terms.length then [39] ++ tx (nameOf g s) ++ [39]
  else if nonAt g s = ⟨#[]⟩ then tStart else tx (nonAt g s)
def isSymP (g : Gr) (s : Int) : Prop := 0 ≤ s ∧ s < (g.terms.length : Int) + g.nons.length
instance (g : Gr) (s : Int) : Decidable (isSymP g s) := inferInstanceAs (Decidable (_ ∧ _))
/-- Words, each with a blank ahead. -/
def wordsT (l : List Txt) : Txt := l.flatMap fun s => 32 :: s
def namesT (g : Gr) (l : List Int) : Txt := wordsT (l.map (symT g))
theorem wordsT_append (a b : List Txt) : wordsT (a ++ b) = wordsT a ++ wordsT b := by simp [wordsT]
theorem wordsT_take {l : List Txt} {k : Nat} (h : k < l.length) : (wordsT (l.take k)).length + 1 + l[k].length ≤ (wordsT l).length := by
  have : wordsT l = wordsT (l.take k) ++ (32 :: l[k]) ++ wordsT (l.drop (k + 1)) := by
    have e : l = l.take k ++ ([l[k]] ++ l.drop (k + 1)) := by simp
    conv => lhs; rw [e]
    rw [wordsT_append, wordsT_append, List.append_assoc]
    simp [wordsT]
  rw [this]
  simp
  omega
theorem namesT_append (g : Gr) (a b : List Int) : namesT g (a ++ b) = namesT g a ++ namesT g b := by simp [namesT, wordsT]
theorem namesT_cons (g : Gr) (x : Int) (l : List Int) : namesT g (x :: l) = 32 :: symT g x ++ namesT g l := by simp [namesT, wordsT]

/-- What an either grammar has of all. -/
structure EBound (g : Gr) : Prop where
  t0 : 0 < g.terms.length
  n0 : 0 < g.nons.length
  t1 : g.terms.length ≤ 65
  n1 : g.nons.length ≤ 65
  p1 : g.prods.length ≤ 97
  l1 : g.levels.length ≤ 64
  tnam : ∀ t ∈ g.terms, t.1.size ≤ 16
  nnam : ∀ s ∈ g.nons, s.size ≤ 16
  lev : ∀ x ∈ g.levels, 1 ≤ x ∧ x ≤ 3
  tlev : ∀ t ∈ g.terms, 0 ≤ t.2 ∧ t.2 ≤ g.levels.length
  start : isSymP g g.start ∧ (g.terms.length : Int) ≤ g.start
  left : ∀ p ∈ g.prods, isSymP g p.1 ∧ (g.terms.length : Int) ≤ p.1
  right : ∀ p ∈ g.prods, ∀ s ∈ p.2.1, isSymP g s ∧ 1 ≤ s
  plev : ∀ p ∈ g.prods, 0 ≤ p.2.2 ∧ p.2.2 ≤ g.levels.length
  has : ∀ i : Nat, i < g.levels.length → ∃ t ∈ g.terms.tail, t.2 = (i : Int) + 1

theorem levels_le {g : Gr} (h : ∀ i : Nat, i < g.levels.length → ∃ t ∈ g.terms.tail, t.2 = (i : Int) + 1) (ht : g.terms.length ≤ 65) : g.levels.length ≤ 64 := by
  have h1 := nodup_le (l := (List.range g.levels.length).map fun i : Nat => (i : Int) + 1) (m := g.terms.tail.map (·.2)) (by
    rw [List.Nodup, List.pairwise_map]
    exact List.nodup_range.imp fun h e => h (by omega)) (by
    intro x hx
    obtain ⟨i, hi, rfl⟩ := List.mem_map.1 hx
    obtain ⟨t, ht, e⟩ := h i (by simpa using hi)
    exact List.mem_map.2 ⟨t, ht, e⟩)
  simp at h1
  omega

theorem syms_bound {g : Gr} {a : Nat} (h : SymsP g a) (hn : ∀ s ∈ g.nons.take a, s.size ≤ 16) : (∀ t ∈ g.terms, t.1.size ≤ 16) ∧ (∀ s ∈ g.nons, s.size ≤ 16) ∧ (∀ t ∈ g.terms, 0 ≤ t.2 ∧ t.2 ≤ g.levels.length) := by
  have hd : g.terms = (⟨#[]⟩, 0) :: g.terms.tail := by
    have := h.t0
    cases ht : g.terms with
    | nil => rw [ht] at this; cases this
    | cons x r => rw [ht] at this; injection this with this; rw [this]; rfl
  refine ⟨fun t ht => ?_, fun s hs => ?_, fun t ht => ?_⟩
  · rw [hd] at ht
    rcases List.mem_cons.1 ht with rfl | ht
    · exact Nat.zero_le _
    · exact (h.terms t ht).name.2.1
  · rw [← List.take_append_drop a g.nons] at hs
    rcases List.mem_append.1 hs with hs | hs
    · exact hn s hs
    · exact (h.nnam s hs).2.1
  · rw [hd] at ht
    rcases List.mem_cons.1 ht with rfl | ht
    · simp
    · exact ⟨(h.terms t ht).lo, (h.terms t ht).hi⟩

theorem either_bound {g : Gr} (h : EitherP g) : EBound g := by
  rcases h with h | h
  · obtain ⟨b1, b2, b3⟩ := syms_bound h.syms (by simp)
    have ht0 : 0 < g.terms.length := by have := h.syms.t0; cases ht : g.terms with
      | nil => rw [ht] at this; cases this
      | cons x r => simp
    have each : ∀ p ∈ g.prods, ProdOk g 0 p := fun p hp => h.prods.each p (by simpa using hp)
    refine ⟨ht0, h.syms.n0, h.syms.t1, by have := h.syms.n1; omega, by have := h.prods.c1; omega, levels_le (fun i hi => (h.syms.levels i hi).2.2) h.syms.t1, b1, b2, fun x hx => ?_, b3, ?_, fun p hp => ?_, fun p hp s hs => ?_, fun p hp => ⟨(each p hp).v0, (each p hp).v1⟩, fun i hi => (h.syms.levels i hi).2.2⟩
    · obtain ⟨i, hi, rfl⟩ := List.mem_iff_getElem.1 hx
      exact ⟨(h.syms.levels i hi).1, (h.syms.levels i hi).2.1⟩
    · have := h.prods.s0; have := h.prods.s1
      exact ⟨⟨by omega, by omega⟩, by omega⟩
    · have := (each p hp).l0; have := (each p hp).l1
      exact ⟨⟨by omega, by omega⟩, by omega⟩
    · have := (each p hp).right s hs
      exact ⟨⟨by omega, by omega⟩, by omega⟩
  · have hn0 : g.nons.take 1 = [⟨#[]⟩] := by
      have := h.first
      cases hn : g.nons with
      | nil => rw [hn] at this; cases this
      | cons x r => rw [hn] at this; injection this with this; simp [this]
    obtain ⟨b1, b2, b3⟩ := syms_bound h.syms (by rw [hn0]; intro s hs; simp at hs; subst hs; decide)
    have ht0 : 0 < g.terms.length := by have := h.syms.t0; cases ht : g.terms with
      | nil => rw [ht] at this; cases this
      | cons x r => simp
    have hs0 := h.prods.s0
    have hs1 := h.prods.s1
    have hn1 := h.syms.n0
    have each : ∀ p ∈ g.prods, p = ((g.terms.length : Int), [g.start], 0) ∨ ProdOk g 1 p := fun p hp => by
      have := h.added
      cases hps : g.prods with
      | nil => rw [hps] at hp; cases hp
      | cons x r =>
        rw [hps] at this hp
        injection this with this
        rcases List.mem_cons.1 hp with rfl | hp
        · exact Or.inl this
        · exact Or.inr (h.prods.each p (by rw [hps]; simpa using hp))
    refine ⟨ht0, by omega, h.syms.t1, by have := h.syms.n1; omega, by have := h.prods.c1; omega, levels_le (fun i hi => (h.syms.levels i hi).2.2) h.syms.t1, b1, b2, fun x hx => ?_, b3, ?_, fun p hp => ?_, fun p hp s hs => ?_, fun p hp => ?_, fun i hi => (h.syms.levels i hi).2.2⟩
    · obtain ⟨i, hi, rfl⟩ := List.mem_iff_getElem.1 hx
      exact ⟨(h.syms.levels i hi).1, (h.syms.levels i hi).2.1⟩
    · exact ⟨⟨by omega, by omega⟩, by omega⟩
    · rcases each p hp with rfl | hp
      · exact ⟨⟨by simp, by simp; omega⟩, by simp⟩
      · have := hp.l0; have := hp.l1
        exact ⟨⟨by omega, by omega⟩, by omega⟩
    · rcases each p hp with rfl | hp
      · simp at hs; subst hs; exact ⟨⟨by omega, by omega⟩, by omega⟩
      · have := hp.right s hs
        exact ⟨⟨by omega, by omega⟩, by omega⟩
    · rcases each p hp with rfl | hp
      · simp
      · exact ⟨hp.v0, hp.v1⟩

theorem symT_len {g : Gr} (h : EBound g) (s : Int) : (symT g s).length ≤ 18 := by
  unfold symT
  split
  · simp [tEnd]
  · split
    · have : (nameOf g s).size ≤ 16 := by
        unfold nameOf
        rw [List.getD_eq_getElem?_getD]
        cases e : g.terms[s.toNat]? with
        | none => exact Nat.zero_le _
        | some t => exact h.tnam t (List.mem_of_getElem? e)
      simp [tx_len]; omega
    · split
      · simp [tStart]
      · have : (nonAt g s).size ≤ 16 := by
          unfold nonAt
          rw [List.getD_eq_getElem?_getD]
          cases e : g.nons[(s - g.terms.length).toNat]? with
          | none => exact Nat.zero_le _
          | some t => exact h.nnam t (List.mem_of_getElem? e)
        rw [tx_len]; omega
theorem namesT_len {g : Gr} (h : EBound g) : ∀ l : List Int, (namesT g l).length ≤ 19 * l.length
  | [] => by simp [namesT, wordsT]
  | x :: l => by
    rw [namesT_cons, List.length_append, List.length_cons, List.length_cons]
    have := symT_len h x
    have := namesT_len h l
    omega
end Go.Px.Scan
namespace Go.Px.Scan
open Go.Px
/-- Terminals whose level is told, of the first k behind the end marker. -/
def termsN (g : Gr) (f : Int → Bool) (k : Nat) : List Int := ((List.range k).filter fun i : Nat => f (levelAt g ((i : Int) + 1))).map fun i : Nat => (i : Int) + 1
def termsL (g : Gr) (f : Int → Bool) : List Int := termsN g f (g.terms.length - 1)
theorem termsN_succ (g : Gr) (f : Int → Bool) (k : Nat) : termsN g f (k + 1) = termsN g f k ++ (if f (levelAt g ((k : Int) + 1)) then [(k : Int) + 1] else []) := by
  unfold termsN
  rw [List.range_succ, List.filter_append, List.map_append]
  congr 1
  cases h : f (levelAt g ((k : Int) + 1)) <;> simp [h]
theorem termsN_len (g : Gr) (f : Int → Bool) (k : Nat) : (termsN g f k).length ≤ k := by
  unfold termsN
  rw [List.length_map]
  exact Nat.le_trans (List.length_filter_le _ _) (by simp)
theorem termsN_mem {g : Gr} {f : Int → Bool} {k : Nat} {x : Int} (h : x ∈ termsN g f k) : 1 ≤ x ∧ x ≤ k := by
  unfold termsN at h
  obtain ⟨i, hi, rfl⟩ := List.mem_map.1 h
  have := (List.mem_filter.1 hi).1
  rw [List.mem_range] at this
  omega
theorem termsL_sym {g : Gr} {f : Int → Bool} {x : Int} (h : x ∈ termsL g f) : isSymP g x := by
  have := termsN_mem h
  exact ⟨by omega, by omega⟩
theorem levelAt_get {g : Gr} {k : Nat} (h : k < g.terms.length) : levelAt g (k : Int) = g.terms[k].2 := by
  unfold levelAt
  simp [h]
/-- The level that a right side has by itself. -/
def ownOf (g : Gr) (r : List Int) : Int := r.foldl (fun (a s : Int) => if s < g.terms.length then levelAt g s else a) 0
theorem ownOf_snoc (g : Gr) (r : List Int) (s : Int) : ownOf g (r ++ [s]) = if s < g.terms.length then levelAt g s else ownOf g r := by simp [ownOf]
def tNone : Txt := [37, 110, 111, 110, 101]
def tPrec : Txt := [37, 112, 114, 101, 99]
/-- What is said of a production's level. -/
def gradeT (g : Gr) (p : Int × List Int × Int) : Txt :=
  if p.2.2 = ownOf g p.2.1 then []
  else if p.2.2 = 0 then wordsT [tNone]
  else wordsT [tPrec] ++ namesT g [(termsL g (fun x => x == p.2.2)).headD 0]
end Go.Px.Scan
namespace Go.Px.Scan
open Go.Px
/-- What Row answers. -/
noncomputable def rowOk (g : Gr) (l : List Int) : Bool := eitherB g && l.all fun s => decide (isSymP g s)
def rowT (g : Gr) (l : List Int) : Txt := (namesT g l).drop 1
/-- A production's text, with a dot behind so many symbols; below 0: without one. -/
def ruleT (g : Gr) (p : Int × List Int × Int) (dot : Int) : Txt :=
  symT g p.1 ++ [32, 45, 62] ++ namesT g (p.2.1.take dot.toNat) ++ (if 0 ≤ dot then wordsT [[46]] else []) ++ namesT g (p.2.1.drop dot.toNat)
noncomputable def ruleOk (g : Gr) (k dot : Int) : Bool := eitherB g && decide (0 ≤ k) && decide (k < g.prods.length) && decide (dot ≤ (g.prods.getD k.toNat (0, [], 0)).2.1.length)
end Go.Px.Scan
namespace Go.Px.Scan
open Go.Px
theorem rowT_snoc (g : Gr) (r : List Int) (s : Int) : rowT g (r ++ [s]) = if r = [] then symT g s else rowT g r ++ [32] ++ symT g s := by
  unfold rowT
  rw [namesT_append]
  split
  · rename_i h; subst h; simp [namesT, wordsT]
  · rename_i h
    cases r with
    | nil => exact absurd rfl h
    | cons x r => rw [namesT_cons]; simp [namesT, wordsT]
end Go.Px.Scan
namespace Go.Px.Scan
open Go.Px
/-- A right side with a dot, symbol by symbol. -/
def dotL (g : Gr) (r : List Int) (d : Int) : Nat → Txt
  | 0 => []
  | k + 1 => dotL g r d k ++ (if (k : Int) = d then [32, 46] else []) ++ [32] ++ symT g (r.getD k 0)
theorem dotL_eq (g : Gr) (r : List Int) (d : Int) : ∀ k, k ≤ r.length → dotL g r d k = if 0 ≤ d ∧ d < k then namesT g (r.take d.toNat) ++ [32, 46] ++ namesT g ((r.take k).drop d.toNat) else namesT g (r.take k)
  | 0, _ => by
    rw [if_neg (by omega)]; rfl
  | k + 1, hk => by
    have ih := dotL_eq g r d k (by omega)
    have hk' : k < r.length := by omega
    have htk : r.take (k + 1) = r.take k ++ [r[k]] := List.take_succ_eq_append_getElem hk'
    have hget : r.getD k 0 = r[k] := by simp [hk']
    have hone : namesT g [r[k]] = [32] ++ symT g r[k] := by simp [namesT, wordsT]
    rw [dotL, ih, hget]
    by_cases h1 : 0 ≤ d ∧ d < k
    · have c1 : ¬ (k : Int) = d := by omega
      have c2 : 0 ≤ d ∧ d < ((k + 1 : Nat) : Int) := ⟨h1.1, by omega⟩
      rw [if_pos h1, if_neg c1, if_pos c2, htk, List.drop_append_of_le_length (by rw [List.length_take]; omega), namesT_append, hone]
      simp
    · rw [if_neg h1]
      by_cases h2 : (k : Int) = d
      · have c2 : 0 ≤ d ∧ d < ((k + 1 : Nat) : Int) := ⟨by omega, by omega⟩
        rw [if_pos h2, if_pos c2]
        have hd : d.toNat = k := by omega
        rw [hd, htk]
        have : (r.take k ++ [r[k]]).drop k = [r[k]] := by
          rw [List.drop_append_of_le_length (by rw [List.length_take]; omega), List.drop_eq_nil_of_le (by rw [List.length_take]; omega), List.nil_append]
        rw [this, hone]
        simp
      · have c2 : ¬ (0 ≤ d ∧ d < ((k + 1 : Nat) : Int)) := by omega
        rw [if_neg h2, if_neg c2, htk, namesT_append, hone]
        simp
theorem ruleT_dotL (g : Gr) (p : Int × List Int × Int) {d : Int} (hd : d ≤ p.2.1.length) : ruleT g p d = symT g p.1 ++ [32, 45, 62] ++ dotL g p.2.1 d p.2.1.length ++ (if (p.2.1.length : Int) = d then [32, 46] else []) := by
  have h := dotL_eq g p.2.1 d p.2.1.length (Nat.le_refl _)
  unfold ruleT
  rw [h]
  simp only [List.take_length]
  by_cases h0 : 0 ≤ d
  · rw [if_pos h0]
    by_cases h1 : (p.2.1.length : Int) = d
    · rw [if_pos h1, if_neg (by omega)]
      have : d.toNat = p.2.1.length := by omega
      rw [this, List.take_length, List.drop_length]
      simp [namesT, wordsT]
    · rw [if_neg h1, if_pos ⟨h0, by omega⟩]
      simp [wordsT]
  · rw [if_neg h0, if_neg (by omega), if_neg (by omega)]
    have : d.toNat = 0 := by omega
    rw [this]
    simp [namesT, wordsT]
theorem dotL_len {g : Gr} (h : EBound g) (r : List Int) (d : Int) : ∀ k, (dotL g r d k).length ≤ 21 * k
  | 0 => by simp [dotL]
  | k + 1 => by
    have := dotL_len h r d k
    have := symT_len h (r.getD k 0)
    rw [dotL]
    split <;> simp at * <;> omega
end Go.Px.Scan
namespace Go.Px.Scan
open Go.Px
def tEndl : Txt := [32, 59, 10]
def tToken : Txt := [37, 116, 111, 107, 101, 110]
def tStartO : Txt := [37, 115, 116, 97, 114, 116]
def sideT (x : Int) : Txt := if x = 1 then [37, 108, 101, 102, 116] else if x = 2 then [37, 114, 105, 103, 104, 116] else [37, 110, 111, 110, 97, 115, 115, 111, 99]
def headT (g : Gr) : Txt := if 1 < g.terms.length then tToken ++ namesT g (termsL g fun _ => true) ++ tEndl else []
def levelT (g : Gr) (i : Nat) : Txt := sideT (g.levels.getD i 0) ++ namesT g (termsL g fun x => x == (i : Int) + 1) ++ tEndl
/-- The first lines, with so many levels. -/
def levelsT (g : Gr) : Nat → Txt
  | 0 => headT g
  | k + 1 => levelsT g k ++ levelT g k
def preT (g : Gr) : Txt := levelsT g g.levels.length ++ tStartO ++ namesT g [g.start] ++ tEndl
/-- A production's line. -/
def prodT (g : Gr) (p : Int × List Int × Int) : Txt := symT g p.1 ++ [32, 58] ++ namesT g p.2.1 ++ gradeT g p ++ tEndl
/-- A text with one more production; none: it is too long. -/
def addP (g : Gr) (t : Option Txt) (p : Int × List Int × Int) : Option Txt :=
  t.bind fun t => if symT g p.1 = tStart then some t else if 8192 < (t ++ prodT g p).length then none else some (t ++ prodT g p)
/-- What Text tells. -/
def textO (g : Gr) : Option Txt := g.prods.foldl (addP g) (some (preT g))
def textN (g : Gr) (k : Nat) : Option Txt := (g.prods.take k).foldl (addP g) (some (preT g))
theorem textN_succ (g : Gr) {k : Nat} (h : k < g.prods.length) : textN g (k + 1) = addP g (textN g k) g.prods[k] := by
  unfold textN
  rw [List.take_succ_eq_append_getElem h, List.foldl_append]
  rfl
theorem textN_all (g : Gr) : textN g g.prods.length = textO g := by unfold textN textO; rw [List.take_length]
theorem addP_none (g : Gr) (l : List (Int × List Int × Int)) : l.foldl (addP g) none = none := by
  induction l with
  | nil => rfl
  | cons p l ih => exact ih
theorem textO_none {g : Gr} {k : Nat} (h : textN g k = none) : textO g = none := by
  have : textO g = (g.prods.drop k).foldl (addP g) (textN g k) := by
    unfold textO textN
    rw [← List.foldl_append, List.take_append_drop]
  rw [this, h, addP_none]
theorem levelT_len {g : Gr} (h : EBound g) (i : Nat) : (levelT g i).length ≤ 2000 := by
  have h1 := namesT_len h (termsL g fun x => x == (i : Int) + 1)
  have h2 := termsN_len g (fun x => x == (i : Int) + 1) (g.terms.length - 1)
  have h3 := h.t1
  unfold levelT
  have h4 : (sideT (g.levels.getD i 0)).length ≤ 9 := by unfold sideT; split; decide; split <;> decide
  unfold termsL at h1
  simp only [List.length_append]
  unfold termsL tEndl
  simp only [List.length_cons, List.length_nil]
  omega
theorem levelsT_len {g : Gr} (h : EBound g) : ∀ k, (levelsT g k).length ≤ 2000 + 2000 * k
  | 0 => by
    have h1 := namesT_len h (termsL g fun _ => true)
    have h2 := termsN_len g (fun _ => true) (g.terms.length - 1)
    have h3 := h.t1
    unfold levelsT headT
    split
    · unfold termsL at h1 ⊢
      simp only [List.length_append]
      unfold tToken tEndl
      simp only [List.length_cons, List.length_nil]
      omega
    · simp
  | k + 1 => by
    have := levelsT_len h k
    have := levelT_len h k
    rw [levelsT, List.length_append]
    omega
theorem preT_len {g : Gr} (h : EBound g) : (preT g).length ≤ 200000 := by
  have h1 := levelsT_len h g.levels.length
  have h2 := h.l1
  have h3 := namesT_len h [g.start]
  unfold preT
  simp only [List.length_append]
  unfold tStartO tEndl
  simp only [List.length_cons, List.length_nil] at h3 ⊢
  omega
theorem gradeT_len {g : Gr} (h : EBound g) (p : Int × List Int × Int) : (gradeT g p).length ≤ 100 := by
  have h3 := namesT_len h [(termsL g (fun x => x == p.2.2)).headD 0]
  unfold gradeT
  split
  · simp
  · split
    · simp [wordsT, tNone]
    · simp only [List.length_append]
      simp [wordsT, tPrec] at h3 ⊢
      omega
theorem prodT_len {g : Gr} (h : EBound g) (p : Int × List Int × Int) : (prodT g p).length ≤ 200 + 19 * p.2.1.length := by
  have h1 := gradeT_len h p
  have h2 := symT_len h p.1
  have h3 := namesT_len h p.2.1
  unfold prodT tEndl
  simp only [List.length_append, List.length_cons, List.length_nil]
  omega
theorem textN_len {g : Gr} (h : EBound g) : ∀ (k : Nat) (t : Txt), k ≤ g.prods.length → textN g k = some t → t.length ≤ 200000
  | 0, t, _, e => by
    have : preT g = t := by simpa [textN] using e
    rw [← this]; exact preT_len h
  | k + 1, t, hk, e => by
    rw [textN_succ g (by omega)] at e
    cases hn : textN g k with
    | none => rw [hn] at e; cases e
    | some t0 =>
      rw [hn] at e
      simp only [addP, Option.bind_some] at e
      split at e
      · injection e with e; rw [← e]; exact textN_len h k t0 (by omega) hn
      · split at e
        · cases e
        · injection e with e; rw [← e]; omega
end Go.Px.Scan
namespace Go.Px.Scan
open Go.Px
noncomputable def textA (g : Gr) : Txt := if eitherB g then (textO g).getD [] else []
noncomputable def textE (g : Gr) : Int := if eitherB g then (if (textO g).isSome then 0 else 11) else 1
end Go.Px.Scan
namespace Go.Px.Scan
open Go.Px
def termsD (g : Gr) (f : Int → Bool) (k : Nat) : List Int := (((List.range (g.terms.length - 1)).drop k).filter fun i : Nat => f (levelAt g ((i : Int) + 1))).map fun i : Nat => (i : Int) + 1
theorem termsD_zero (g : Gr) (f : Int → Bool) : termsD g f 0 = termsL g f := rfl
theorem termsD_end (g : Gr) (f : Int → Bool) : termsD g f (g.terms.length - 1) = [] := by unfold termsD; rw [List.drop_eq_nil_of_le (by simp)]; rfl
theorem termsD_step (g : Gr) (f : Int → Bool) {k : Nat} (h : k < g.terms.length - 1) : (termsD g f k).headD 0 = if f (levelAt g ((k : Int) + 1)) then (k : Int) + 1 else (termsD g f (k + 1)).headD 0 := by
  unfold termsD
  rw [List.drop_eq_getElem_cons (by simpa using h), List.getElem_range, List.filter_cons]
  split
  · rfl
  · rfl
end Go.Px.Scan

/-
  A page: a strings.Builder (with a grammar behind it, or alone) in pieces.
-/
namespace Go.Px
open Go.RowKit
/-- A builder with a text, and what lies behind it. -/
def pgC (e t : TypeId) (b : Nat) (vs : List Value) (l : Txt) : Ch := Ch.ex fun x : Value × Option Addr × Nat =>
  Ch.fact (x.1 = .pointer none ∨ x.1 = .pointer (some ⟨b, 0, none⟩)) (Ch.all [boxC b t (x.1 :: .slice x.2.1 l.length x.2.2 :: vs), txtC e x.2.1 l.length x.2.2 l])
end Go.Px
namespace Go.Proofs.Ytkacbjhiobnbfaa
open Go.Px Go.Px.Scan Go.RowKit
set_option maxHeartbeats 1000000
set_option linter.unusedSimpArgs false
set_option linter.unusedVariables false
set_option maxRecDepth 100000
attribute [-go_sem] Builtin.append_

theorem uBytes : Try.prog.underlying 98 = some (.slice 5) := Try.underlying98
theorem iByte : (Try.prog.info? 5).map (fun i => (i.zero, i.size, i.bytes)) = some (some (.int .u8 0), 1, 1) := by kernel_rfl
/-- Where a builder lies. -/
def BT (t : TypeId) (vs : List Value) : Prop := (t = 100 ∧ vs.length = 0) ∨ (t = 102 ∧ vs.length = 5)
theorem lies100 : liesAt Try.prog Try.prog.depth 100 (2 / Try.prog.cellsOf 100) 0 100 1 = true := by kernel_rfl
theorem lies102 : liesAt Try.prog Try.prog.depth 102 (7 / Try.prog.cellsOf 102) 0 100 1 = true := by kernel_rfl
theorem info100 : ∃ j, Try.prog.info? 100 = some j ∧ j.size = 2 := by
  have h : (Try.prog.info? 100).map (·.size) = some 2 := by kernel_rfl
  cases hq : Try.prog.info? 100 with
  | none => rw [hq] at h; cases h
  | some j => rw [hq] at h; exact ⟨j, rfl, by simpa using h⟩
theorem CALL_value {P : Program} {X : Pan} {f : FuncId} {args : Array Value} {w w' : World} {v : Value} {K : Value → World → Prop} (h : (callFunc f args).run P w = .ok (.value v) w') (hk : K v w') : CALL P X f args w K := by
  unfold CALL RUNN
  rw [h]
  exact hk
theorem noEscape_ct (x : Value) (w : World) : (callFunc internal_abi_NoEscape.id #[x]).run Try.prog w = .ok (.value x) w := by
  rfl

section
variable {w : World} {F : Nat → Prop} {t : TypeId} {b : Nat} {vs : List Value} {l : Txt}
theorem copyCheck_ct (h : (pgC 5 t b vs l).ok w F) (ht : BT t vs) : Ct Try.prog strings_Builder_copyCheck.id #[.pointer (some ⟨b, 0, none⟩)] w fun v w' => DoneC F w (pgC 5 t b vs l) w' := by
  refine strings_Builder_copyCheck.ct fun R hR => ?_
  obtain ⟨⟨av, A, c⟩, hav, hp⟩ := h
  have s0 := St.enter hp
  have y0 := s0.box 0 rfl
  simp [boxAt] at y0
  obtain ⟨F0, ho, _⟩ := s0.get (k := 0) rfl
  have hsh : w.shape? b = some (t, 2 + vs.length) := by
    have := ho.2
    simp [World.shape?, this]
    omega
  have fin : ∀ w', St F w w' [boxC b t (.pointer (some ⟨b, 0, none⟩) :: .slice A l.length c :: vs), txtC 5 A l.length c l] → DoneC F w (pgC 5 t b vs l) w' := fun w' hs =>
    DoneC.of_st hs fun F' hok => ⟨(.pointer (some ⟨b, 0, none⟩), A, c), Or.inr rfl, hok⟩
  obtain ⟨j, hj, hj2⟩ := info100
  have e1 : (convert 97 184 (.pointer (some ⟨b, 0, none⟩))).run Try.prog w = .ok (.pointer (some ⟨b, 0, none⟩)) w := Lib.run_to_unsafe w ⟨b, 0, none⟩ Try.underlying97 Try.underlying184 hj (by omega) hsh (by show 0 < 2 + vs.length; omega)
  have e2 : (convert 184 97 (.pointer (some ⟨b, 0, none⟩))).run Try.prog w = .ok (.pointer (some ⟨b, 0, none⟩)) w := by
    refine Lib.run_from_unsafe w ⟨b, 0, none⟩ Try.underlying184 Try.underlying97 hj hsh ?_
    rcases ht with ⟨rfl, hv⟩ | ⟨rfl, hv⟩ <;> rw [hv]
    · exact lies100
    · exact lies102
  unfold strings_Builder_copyCheck.run
  rcases hav with rfl | rfl
  · simp -dsimp [go_sem, y0, e1]
    refine CALL_value (noEscape_ct _ _) ?_
    have h1 := s0.set 0 rfl 0 (.pointer (some ⟨b, 0, none⟩))
    simp -dsimp [go_sem, y0, e2]
    exact hR _ _ (fin _ h1)
  · have e3 := Lib.run_neq_ptr_same w ⟨b, 0, none⟩ Try.underlying97 hj
    simp -dsimp [go_sem, y0, e3]
    exact hR _ _ (fin _ s0)

theorem WriteString_ct (h : (pgC 5 t b vs l).ok w F) (ht : BT t vs) (s : ByteArray) (hb : l.length + s.size ≤ maxBytes) : Ct Try.prog strings_Builder_WriteString.id #[.pointer (some ⟨b, 0, none⟩), .string s] w fun v w' => DoneC F w (pgC 5 t b vs (l ++ tx s)) w' := by
  refine strings_Builder_WriteString.ct fun R hR => ?_
  have s0 := St.one h
  unfold strings_Builder_WriteString.run
  simp -dsimp [go_sem]
  refine CALL_piece s0 0 rfl (fun F' ho _ => copyCheck_ct ho ht) ?_
  intro F1 v1 w1 hd hst
  have s1 := hst _ hd
  obtain ⟨F2, ⟨⟨av, A, c⟩, hav, hp⟩, hF2, hs2⟩ := s1.opn (k := 0) rfl
  have q0 := St.enter hp
  have y0 := q0.box 0 rfl
  simp [boxAt] at y0
  simp -dsimp [go_sem, y0]
  refine q0.txtStr 1 rfl uBytes Try.underlying9 iByte s hb ?_
  intro a' cap w2 q2
  have y2 := q2.box 0 rfl
  simp [boxAt] at y2
  have q3 := q2.set 0 rfl 1 (.slice a' (l.length + s.size) cap)
  simp -dsimp [go_sem, y2]
  have hd2 : DoneC F2 w1 (pgC 5 t b vs (l ++ tx s)) _ := DoneC.of_st q3 fun F' hok => ⟨(av, a', cap), hav, by
    rw [show (l ++ tx s).length = l.length + s.size by rw [List.length_append, tx_len]]
    exact hok⟩
  have s3 := hs2 _ _ hd2.1 hd2.2
  exact hR _ _ s3.oneDone
end
end Go.Proofs.Ytkacbjhiobnbfaa

/-
  A page's words, names and lines.
-/
namespace Go.Proofs.Ytkacbjhiobnbfaa
open Go.Px Go.Px.Scan Go.RowKit
set_option maxHeartbeats 1000000
set_option linter.unusedSimpArgs false
set_option linter.unusedVariables false
set_option maxRecDepth 100000
attribute [-go_sem] Builtin.append_

/-- A page of a grammar. -/
structure Pg (w : World) (F : Nat → Prop) (b : Nat) (vs : List Value) (B : Nat) (g : Gr) (l : Txt) : Prop where
  pg : (pgC 5 102 b vs l).ok w F
  rd : rGram.atN w B (.agg vs.toArray) g
  fr : ∀ i, F i → B ≤ i
  hB : B ≤ w.heap.size
  bd : EBound g
abbrev pgG (b : Nat) (vs : List Value) (l : Txt) : Ch := pgC 5 102 b vs l
theorem Pg.vlen {w : World} {F : Nat → Prop} {b B : Nat} {vs : List Value} {g : Gr} {l : Txt} (h : Pg w F b vs B g l) : vs.length = 5 := by
  obtain ⟨A1, c1, A2, c2, A3, c3, A4, c4, hv, _⟩ := rGram_open h.rd
  injection hv with hv
  rw [← List.size_toArray, hv]; rfl
theorem Pg.bt {w : World} {F : Nat → Prop} {b B : Nat} {vs : List Value} {g : Gr} {l : Txt} (h : Pg w F b vs B g l) : BT 102 vs := Or.inr ⟨rfl, h.vlen⟩
/-- .. behind a call. -/
theorem Pg.next {w w' : World} {F F' : Nat → Prop} {b B : Nat} {vs : List Value} {g : Gr} {l l' : Txt} (h : Pg w F b vs B g l) (hc : Chg F w w') (hp : (pgG b vs l').ok w' F') (hF : ∀ i, F' i → F i ∨ w.heap.size ≤ i) : Pg w' F' b vs B g l' where
  pg := hp
  rd := rGram_below h.rd (hc.below h.hB fun i hi hF => by have := h.fr i hF; omega)
  fr i hi := by rcases hF i hi with e | e; exact h.fr i e; have := h.hB; omega
  hB := Nat.le_trans h.hB hc.size
  bd := h.bd
theorem Pg.done {w w' : World} {F : Nat → Prop} {b B : Nat} {vs : List Value} {g : Gr} {l l' : Txt} (h : Pg w F b vs B g l) (hd : DoneC F w (pgG b vs l') w') : Pg w' (fun i => F i ∨ (w.heap.size ≤ i ∧ i < w'.heap.size)) b vs B g l' := h.next hd.1 hd.2 fun i hi => by rcases hi with e | e; exact Or.inl e; exact Or.inr e.1

theorem ba_empty {s : ByteArray} : s.toList.isEmpty = true ↔ s = ⟨#[]⟩ := by
  rw [ByteArray.toList_eq]
  constructor
  · intro h
    have : tx s = tx ⟨#[]⟩ := by simpa [tx] using h
    exact tx_inj this
  · rintro rfl; rfl
section
variable {w : World} {F : Nat → Prop} {b B : Nat} {vs : List Value} {g : Gr} {l : Txt}
theorem name_ct (h : Pg w F b vs B g l) {s : Int} (hs : isSymP g s) : Ct Try.prog show_page_name.id #[.pointer (some ⟨b, 0, none⟩), .int .i64 s] w fun v w' => v = .string (BA (symT g s)) ∧ w = w' := by
  refine show_page_name.ct fun R hR => ?_
  obtain ⟨A1, c1, A2, c2, A3, c3, A4, c4, hv, h1, h2, h3, hst, h4, k1, k2, k3, k4⟩ := (rGram_open h.rd).ex
  have hvs : vs = [.slice A1 g.terms.length c1, .slice A2 g.nons.length c2, .slice A3 g.levels.length c3, .int .i64 g.start, .slice A4 g.prods.length c4] := by
    injection hv with hv
    have := congrArg Array.toList hv; simpa using this
  obtain ⟨⟨av, A, c⟩, hav, hp⟩ := h.pg
  rw [hvs] at hp
  have s0 := St.enter hp
  have y0 := s0.box 0 rfl
  simp [boxAt] at y0
  obtain ⟨hs1, hs2⟩ := hs
  have b1 := h.bd.t1
  have b2 := h.bd.n1
  unfold show_page_name.run
  simp -dsimp [go_sem, y0]
  refine SPL_intro (fun p => ?_) (fun p => ?_) <;> simp at p
  · subst p
    exact hR _ _ ⟨rfl, rfl⟩
  · obtain ⟨j, rfl⟩ : ∃ j : Nat, s = (j : Int) := ⟨s.toNat, by omega⟩
    simp -dsimp [go_sem]
    refine SPL_intro (fun p2 => ?_) (fun p2 => ?_) <;> simp at p2
    · obtain ⟨b', o, e1, _, x1, _, z1, _⟩ := terms_at h1 p2
      have hsz := h.bd.tnam _ (List.getElem_mem p2)
      subst e1
      have hsy : symT g (j : Int) = [39] ++ tx g.terms[j].1 ++ [39] := by
        unfold symT nameOf
        rw [if_neg (by omega), if_pos (by omega)]
        simp [p2]
      have q1 : ¬ 9223372036854775807 < 1 + g.terms[j].1.size := by omega
      have q2 : ¬ 9223372036854775807 < 1 + g.terms[j].1.size + 1 := by omega
      simp -dsimp [go_sem, y0, p2, x1, q1, q2]
      refine hR _ _ ⟨?_, rfl⟩
      rw [hsy, ← BA_append, ← BA_append, BA_tx]
      rfl
    · obtain ⟨k, rfl⟩ : ∃ k : Nat, j = g.terms.length + k := ⟨j - g.terms.length, by omega⟩
      have hk : k < g.nons.length := by omega
      obtain ⟨b', o, e1, _, x1, z1⟩ := Go.Px.strs_at h2 hk
      subst e1
      have wk : IntKind.i64.wrap (((g.terms.length + k : Nat) : Int) - (g.terms.length : Int)) = (k : Int) := by
        rw [show ((g.terms.length + k : Nat) : Int) - (g.terms.length : Int) = (k : Int) by omega]; exact IntWalk.i64_in _ (by omega)
      have hn : nonAt g ((g.terms.length + k : Nat) : Int) = g.nons[k] := by
        unfold nonAt
        rw [show (((g.terms.length + k : Nat) : Int) - (g.terms.length : Int)).toNat = k by omega]
        simp [hk]
      have hsy : symT g ((g.terms.length + k : Nat) : Int) = if g.nons[k] = ⟨#[]⟩ then tStart else tx g.nons[k] := by
        unfold symT
        rw [if_neg (by omega), if_neg (by omega), hn]
      push_cast at wk
      simp -dsimp [go_sem, y0, wk, hk, x1]
      refine SPL_intro (fun p3 => ?_) (fun p3 => ?_)
      · have p3 := ba_empty.1 p3
        refine hR _ _ ⟨?_, rfl⟩
        rw [hsy, if_pos p3]; rfl
      · simp -dsimp [go_sem, y0, wk, hk, x1]
        refine hR _ _ ⟨?_, rfl⟩
        rw [hsy, if_neg (fun e => by rw [ba_empty.2 e] at p3; cases p3), BA_tx]

attribute [-go_sem] show_page_words.b4 show_page_names.b4
/-- What a call owes of a page. -/
theorem words_ct (h : Pg w F b vs B g l) {u : Value} {ws : List ByteArray} (hu : ∀ w', Chg F w w' → ∃ B', (rSlice rStr).at1 w' B' u ws) (hb : l.length + (wordsT (ws.map tx)).length ≤ maxBytes) :
    Ct Try.prog show_page_words.id #[.pointer (some ⟨b, 0, none⟩), u] w fun v w' => DoneC F w (pgG b vs (l ++ wordsT (ws.map tx))) w' := by
  refine show_page_words.ct fun R hR => ?_
  obtain ⟨A, c, rfl, hl, hm, _⟩ := slice_form (hu w (Chg.refl _ _)).choose_spec
  unfold show_page_words.run
  simp -dsimp [go_sem]
  refine show_page_words.l3_intro _ _ _ _ _ _ (fun y w' => ∃ k : Nat, y = .int .i64 k ∧ k ≤ ws.length ∧ St F w w' [pgG b vs (l ++ wordsT ((ws.take k).map tx))]) (fun y _ => ws.length - iv y) ⟨0, rfl, Nat.zero_le _, by simpa [wordsT] using St.one h.pg⟩ ?_
  rintro _ w1 ⟨k, rfl, hk, hst⟩ C hC
  unfold show_page_words.b4
  simp -dsimp [go_sem]
  refine SPL_intro (fun p => ?_) (fun p => ?_) <;> simp at p
  · obtain ⟨b', o, e1, _, x1, z1⟩ := Go.Px.strs_at (hu w1 hst.chg).choose_spec p
    subst e1
    have htk : ws.take (k + 1) = ws.take k ++ [ws[k]] := List.take_succ_eq_append_getElem p
    have hle := wordsT_take (l := ws.map tx) (k := k) (by simpa using p)
    simp only [List.getElem_map, tx_len, ← List.map_take] at hle
    have wk := wrap_succ p (by omega)
    simp -dsimp [go_sem, p, x1]
    refine CALL_piece hst 0 rfl (fun F' ho hF => WriteString_ct ho h.bt ⟨#[32]⟩ (by rw [List.length_append]; show _ + 1 ≤ _; omega)) ?_
    intro F1 v1 w2 hd hs2
    have s2 := hs2 _ hd
    simp -dsimp [go_sem]
    refine CALL_piece s2 0 rfl (fun F' ho hF => WriteString_ct ho h.bt ws[k] (by rw [List.length_append, List.length_append, tx_len]; show _ + 1 + _ ≤ _; omega)) ?_
    intro F2 v2 w3 hd2 hs3
    have s3 := hs3 _ hd2
    simp -dsimp [go_sem, wk]
    refine hC _ _ ⟨k + 1, by simp, by omega, ?_⟩ (by simp [iv]; omega)
    have e : l ++ wordsT ((ws.take k).map tx) ++ tx ⟨#[32]⟩ ++ tx ws[k] = l ++ wordsT ((ws.take (k + 1)).map tx) := by
      rw [htk, List.map_append, wordsT_append]
      simp [wordsT, tx]
    rw [e] at s3
    exact s3
  · have : k = ws.length := by omega
    subst this
    rw [List.take_length] at hst
    exact hR _ _ hst.oneDone

theorem names_ct (h : Pg w F b vs B g l) {u : Value} {ws : List Int} (hu : ∀ w', Chg F w w' → ∃ B', (rSlice rInt).at1 w' B' u ws) (hs : ∀ s ∈ ws, isSymP g s) (hb : l.length + (namesT g ws).length ≤ maxBytes) :
    Ct Try.prog show_page_names.id #[.pointer (some ⟨b, 0, none⟩), u] w fun v w' => DoneC F w (pgG b vs (l ++ namesT g ws)) w' := by
  refine show_page_names.ct fun R hR => ?_
  obtain ⟨A, c, rfl, hl, hm, _⟩ := slice_form (hu w (Chg.refl _ _)).choose_spec
  unfold show_page_names.run
  simp -dsimp [go_sem]
  refine show_page_names.l3_intro _ _ _ _ _ _ (fun y w' => ∃ k : Nat, y = .int .i64 k ∧ k ≤ ws.length ∧ St F w w' [pgG b vs (l ++ namesT g (ws.take k))]) (fun y _ => ws.length - iv y) ⟨0, rfl, Nat.zero_le _, by simpa [namesT, wordsT] using St.one h.pg⟩ ?_
  rintro _ w1 ⟨k, rfl, hk, hst⟩ C hC
  unfold show_page_names.b4
  simp -dsimp [go_sem]
  refine SPL_intro (fun p => ?_) (fun p => ?_) <;> simp at p
  · obtain ⟨b', o, e1, _, x1, z1⟩ := Go.Px.ints_at (hu w1 hst.chg).choose_spec p
    subst e1
    have htk : ws.take (k + 1) = ws.take k ++ [ws[k]] := List.take_succ_eq_append_getElem p
    have hle := wordsT_take (l := ws.map (symT g)) (k := k) (by simpa using p)
    simp only [List.getElem_map, ← List.map_take] at hle
    have hb' : l.length + (wordsT (ws.map (symT g))).length ≤ maxBytes := hb
    have wk := wrap_succ p (by omega)
    simp -dsimp [go_sem, p, x1]
    refine CALL_piece hst 0 rfl (fun F' ho hF => name_ct (h.next hst.chg ho fun i hi => ?_) (hs _ (List.getElem_mem p))) ?_
    · by_cases e : i < w.heap.size
      · exact Or.inl ((hF i hi).2 e)
      · exact Or.inr (by omega)
    rintro F1 _ _ ⟨rfl, rfl⟩ _
    have hc1 : Chg noB w1 (w1.alloc (.cells #[.string (BA (symT g ws[k]))] 9)) := (Chg.refl _ _).alloc _
    have hsz : (BA (symT g ws[k])).size ≤ maxLen := by rw [BA_size]; have := symT_len h.bd ws[k]; unfold maxLen; omega
    simp -dsimp [go_sem]
    refine CALL_new hst hc1 0 rfl (fun F' ho hF => words_ct ((h.next (hst.chg.trans' hc1 fun _ _ h => h.elim) ho fun i hi => ?_)) (fun w' hc => ⟨_, lit_str (fun i hi => (hF i hi).1) hsz hc⟩) ?_) ?_
    · by_cases e : i < w.heap.size
      · exact Or.inl ((hF i hi).2 e)
      · exact Or.inr (by omega)
    · simp only [List.map_cons, List.map_nil, tx_BA, wordsT, List.flatMap_cons, List.flatMap_nil, List.append_nil, List.length_append, List.length_cons]
      unfold namesT
      omega
    intro F3 v3 w3 hd hs3
    have s3 := hs3 _ hd
    simp -dsimp [go_sem, wk]
    refine hC _ _ ⟨k + 1, by simp, by omega, ?_⟩ (by simp [iv]; omega)
    have e : l ++ namesT g (ws.take k) ++ wordsT ([BA (symT g ws[k])].map tx) = l ++ namesT g (ws.take (k + 1)) := by
      rw [htk, namesT_append, List.append_assoc]
      simp [namesT, wordsT, tx_BA]
    rw [e] at s3
    exact s3
  · have : k = ws.length := by omega
    subst this
    rw [List.take_length] at hst
    exact hR _ _ hst.oneDone
end
end Go.Proofs.Ytkacbjhiobnbfaa

/-
  A page's cells.
-/
namespace Go.Proofs.Ytkacbjhiobnbfaa
open Go.Px Go.Px.Scan Go.RowKit
set_option maxHeartbeats 1000000
set_option linter.unusedSimpArgs false
set_option linter.unusedVariables false
set_option maxRecDepth 100000
section
variable {w : World} {F : Nat → Prop} {b B : Nat} {vs : List Value} {g : Gr} {l : Txt}
theorem Pg.of_st {w' : World} {l' : Txt} (h : Pg w F b vs B g l) {F' : Nat → Prop} (hc : Chg F w w') (ho : (pgG b vs l').ok w' F') (hF : ∀ i, F' i → i < w'.heap.size ∧ (i < w.heap.size → F i)) : Pg w' F' b vs B g l' :=
  h.next hc ho fun i hi => by
    by_cases e : i < w.heap.size
    · exact Or.inl ((hF i hi).2 e)
    · exact Or.inr (by omega)

end
theorem pg_cells {w : World} {F : Nat → Prop} {t : TypeId} {b : Nat} {vs : List Value} {l : Txt} (h : (pgC 5 t b vs l).ok w F) : boxAt w b 2 vs := by
  obtain ⟨⟨av, A, c⟩, hav, hp⟩ := h
  exact ((St.enter hp).box 0 rfl).1.2.2
section
variable {w : World} {F : Nat → Prop} {b B : Nat} {vs : List Value} {g : Gr} {l : Txt}
theorem Pg.cells (h : Pg w F b vs B g l) : ∃ A1 c1 A2 c2 A3 c3 A4 c4, vs = [.slice A1 g.terms.length c1, .slice A2 g.nons.length c2, .slice A3 g.levels.length c3, .int .i64 g.start, .slice A4 g.prods.length c4] ∧
    (rSlice rTerm).at1 w B (.slice A1 g.terms.length c1) g.terms ∧ (rSlice rStr).at1 w B (.slice A2 g.nons.length c2) g.nons ∧ (rSlice rInt).at1 w B (.slice A3 g.levels.length c3) g.levels ∧ inI64 g.start ∧ (rSlice rPr).at1 w B (.slice A4 g.prods.length c4) g.prods := by
  obtain ⟨A1, c1, A2, c2, A3, c3, A4, c4, hv, h1, h2, h3, hst, h4, k1, k2, k3, k4⟩ := (rGram_open h.rd).ex
  refine ⟨A1, c1, A2, c2, A3, c3, A4, c4, ?_, h1, h2, h3, hst, h4⟩
  injection hv with hv
  have := congrArg Array.toList hv; simpa using this

end
end Go.Proofs.Ytkacbjhiobnbfaa

/-
  show.open; Symbol, Row, Prod, Item.
-/
namespace Go.Proofs.Ytkacbjhiobnbfaa
open Go.Px Go.Px.Scan Go.RowKit
set_option maxHeartbeats 1000000
set_option linter.unusedSimpArgs false
set_option linter.unusedVariables false
set_option maxRecDepth 100000
attribute [-go_sem] Builtin.append_

theorem pg_of_box {w : World} {F : Nat → Prop} {t : TypeId} {b : Nat} {vs : List Value} (h : (boxC b t (.pointer none :: .slice none 0 0 :: vs)).ok w F) : (pgC 5 t b vs []).ok w F := by
  have s0 := (St.one h).nilTxt 5
  obtain ⟨T, hT, hk⟩ := s0.all
  exact ⟨(.pointer none, none, 0), Or.inl rfl, T, fun i hi => ⟨(hT i hi).1 (hT i hi).2, (hT i hi).2⟩, hk⟩
theorem bPage (A1 A2 A3 A4 : Option Addr) (n1 c1 n2 c2 n3 c3 n4 c4 : Nat) (s : Int) (w : World) : (Instr.build 102 #[(1, .agg #[.slice A1 n1 c1, .slice A2 n2 c2, .slice A3 n3 c3, .int .i64 s, .slice A4 n4 c4])]).run Try.prog w = .ok (.agg #[.pointer none, .slice none 0 0, .slice A1 n1 c1, .slice A2 n2 c2, .slice A3 n3 c3, .int .i64 s, .slice A4 n4 c4]) w := by simp [go_sem]
attribute [go_sem ↓] bPage

theorem open_ct {w : World} {B : Nat} {vg : Value} {g : Gr} (h : rGram.atN w B vg g) (hB : B ≤ w.heap.size) : Ct Try.prog show_open.id #[vg] w fun v w' => ∃ b vs, v = .tuple #[.pointer (some ⟨b, 0, none⟩), .bool (eitherB g)] ∧ vg = .agg vs.toArray ∧ St noB w w' [pgG b vs []] := by
  refine show_open.ct fun R hR => ?_
  obtain ⟨A1, c1, A2, c2, A3, c3, A4, c4, rfl, h1, h2, h3, hst, h4, k1, k2, k3, k4⟩ := (rGram_open h).ex
  have s0 := (St.refl noB w).alloc #[.slice A1 g.terms.length c1, .slice A2 g.nons.length c2, .slice A3 g.levels.length c3, .int .i64 g.start, .slice A4 g.prods.length c4] 27
  unfold show_open.run
  simp -dsimp [go_sem]
  generalize hq : w.heap.size = q at s0 ⊢
  generalize hw1 : w.alloc (.cells #[.slice A1 g.terms.length c1, .slice A2 g.nons.length c2, .slice A3 g.levels.length c3, .int .i64 g.start, .slice A4 g.prods.length c4] 27) = w1 at s0 ⊢
  have y0 := s0.box 0 rfl
  simp [boxAt] at y0
  have hg1 : rGram.atN w1 B _ g := rGram_below h (s0.chg.below hB fun _ _ => id)
  have hB1 : B ≤ w1.heap.size := by have := s0.chg.size; omega
  have fin : ∀ (b : Nat) (x : Bool) (w' : World), x = eitherB g → St noB w w' ([boxC q 27 [.slice A1 g.terms.length c1, .slice A2 g.nons.length c2, .slice A3 g.levels.length c3, .int .i64 g.start, .slice A4 g.prods.length c4], boxC b 102 [.pointer none, .slice none 0 0, .slice A1 g.terms.length c1, .slice A2 g.nons.length c2, .slice A3 g.levels.length c3, .int .i64 g.start, .slice A4 g.prods.length c4]]) →
      R (.returned (.tuple #[.pointer (some ⟨b, 0, none⟩), .bool x])) w' := by
    intro b x w' hx hs
    refine hR _ _ ⟨b, [.slice A1 g.terms.length c1, .slice A2 g.nons.length c2, .slice A3 g.levels.length c3, .int .i64 g.start, .slice A4 g.prods.length c4], by rw [hx], rfl, ?_⟩
    have h1 : St noB w w' [boxC b 102 (.pointer none :: .slice none 0 0 :: [.slice A1 g.terms.length c1, .slice A2 g.nons.length c2, .slice A3 g.levels.length c3, .int .i64 g.start, .slice A4 g.prods.length c4])] := hs.pick [1] (by decide) rfl
    exact h1.turn (k := 0) rfl fun F ho => pg_of_box ho
  have he : eitherB g = (validB g || closedB g) := rfl
  have hq1 : w1.heap.size = q + 1 := by rw [← hw1, ← hq]; simp
  obtain ⟨gv, hgv⟩ : ∃ gv : Value, gv = .agg #[.slice A1 g.terms.length c1, .slice A2 g.nons.length c2, .slice A3 g.levels.length c3, .int .i64 g.start, .slice A4 g.prods.length c4] := ⟨_, rfl⟩
  constructor
  · have s1 := (s0.old (Chg.refl noB _).drew).alloc #[.pointer none, .slice none 0 0, .slice A1 g.terms.length c1, .slice A2 g.nons.length c2, .slice A3 g.levels.length c3, .int .i64 g.start, .slice A4 g.prods.length c4] 102
    have s1' := s1
    have hg2 : rGram.atN _ B _ g := rGram_below h (s1'.chg.below hB fun _ _ => id)
    have hB2 := s1'.chg.size
    rw [show w1.drew.heap.size = q + 1 from hq1] at s1'
    have ew : w1.drew.alloc (.cells #[.pointer none, .slice none 0 0, .slice A1 g.terms.length c1, .slice A2 g.nons.length c2, .slice A3 g.levels.length c3, .int .i64 g.start, .slice A4 g.prods.length c4] 102) = (w1.alloc (.cells #[.pointer none, .slice none 0 0, .slice A1 g.terms.length c1, .slice A2 g.nons.length c2, .slice A3 g.levels.length c3, .int .i64 g.start, .slice A4 g.prods.length c4] 102)).drew := by simp [go_sem]
    rw [ew] at s1' hg2 hB2
    generalize (w1.alloc (.cells #[.pointer none, .slice none 0 0, .slice A1 g.terms.length c1, .slice A2 g.nons.length c2, .slice A3 g.levels.length c3, .int .i64 g.start, .slice A4 g.prods.length c4] 102)).drew = w2 at s1' hg2 hB2 ⊢
    refine CALL_of (Valid_ct hg2 (by omega)) ?_
    rintro _ w3 ⟨rfl, hc3⟩
    have s3 := s1'.old hc3
    refine SPL_intro (fun p => ?_) (fun p => ?_)
    · exact fin _ _ _ (by rw [he, p]; rfl) s3
    · have y3 := s3.box 0 rfl
      simp [boxAt] at y3
      simp -dsimp [go_sem, y3]
      have hg3 : rGram.atN w3 B _ g := rGram_below h (s3.chg.below hB fun _ _ => id)
      refine CALL_of (Closed_ct hg3 (by have := s3.chg.size; omega)) ?_
      rintro _ w4 ⟨rfl, hc4⟩
      exact fin _ _ _ (by rw [he, p]; rfl) (s3.old hc4)
  · have s1 := s0.old (Chg.refl noB _).drew
    have hg2 : rGram.atN _ B _ g := rGram_below h (s1.chg.below hB fun _ _ => id)
    have hB2 := s1.chg.size
    generalize w1.drew = w2 at s1 hg2 hB2 ⊢
    refine CALL_of (Valid_ct hg2 (by omega)) ?_
    rintro _ w3 ⟨rfl, hc3⟩
    have s3 := s1.old hc3
    have y3 := s3.box 0 rfl
    simp [boxAt] at y3
    have hg3 : rGram.atN w3 B _ g := rGram_below h (s3.chg.below hB fun _ _ => id)
    simp -dsimp [go_sem, y3]
    refine SPL_intro (fun p => ?_) (fun p => ?_)
    · have s4 := s3.alloc #[.pointer none, .slice none 0 0, .slice A1 g.terms.length c1, .slice A2 g.nons.length c2, .slice A3 g.levels.length c3, .int .i64 g.start, .slice A4 g.prods.length c4] 102
      simp -dsimp [go_sem]
      exact fin _ _ _ (by rw [he, p]; rfl) s4
    · have s4 := s3.alloc #[.pointer none, .slice none 0 0, .slice A1 g.terms.length c1, .slice A2 g.nons.length c2, .slice A3 g.levels.length c3, .int .i64 g.start, .slice A4 g.prods.length c4] 102
      simp -dsimp [go_sem, y3]
      constructor
      · have hg4 : rGram.atN _ B _ g := rGram_below h (s4.chg.below hB fun _ _ => id)
        have hB4 := s4.chg.size
        generalize w3.alloc (.cells #[.pointer none, .slice none 0 0, .slice A1 g.terms.length c1, .slice A2 g.nons.length c2, .slice A3 g.levels.length c3, .int .i64 g.start, .slice A4 g.prods.length c4] 102) = w4 at s4 hg4 hB4 ⊢
        have y4 := s4.box 0 rfl
        simp [boxAt] at y4
        refine CALL_of (Closed_ct hg4 (by omega)) ?_
        rintro _ w5 ⟨rfl, hc5⟩
        exact fin _ _ _ (by rw [he, p]; rfl) (s4.old hc5)
      · refine CALL_of (Closed_ct hg3 (by have := s3.chg.size; omega)) ?_
        rintro _ w5 ⟨rfl, hc5⟩
        have s5 := s3.old hc5
        have y5 := s5.box 0 rfl
        simp [boxAt] at y5
        have s6 := s5.alloc #[.pointer none, .slice none 0 0, .slice A1 g.terms.length c1, .slice A2 g.nons.length c2, .slice A3 g.levels.length c3, .int .i64 g.start, .slice A4 g.prods.length c4] 102
        simp -dsimp [go_sem, y5]
        exact fin _ _ _ (by rw [he, p]; rfl) s6
end Go.Proofs.Ytkacbjhiobnbfaa

