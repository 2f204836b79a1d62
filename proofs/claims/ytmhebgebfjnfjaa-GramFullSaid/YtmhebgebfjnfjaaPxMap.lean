/-
  Maps that a call owns: from strings or numbers to numbers.
-/
import Derived.Test.YtmhebgebfjnfjaaPxOwn
import Derived.Maps.OwnSet
import Derived.Maps.Views
import Derived.StringKeys
namespace Go.Px
open Go.RowKit

/-- A kind of keys. -/
structure KeyT (κ : Type) where
  val : κ → Value
  lit : κ → Lit
  good : κ → Prop
  inj : ∀ {a b}, lit a = lit b → a = b
  isLit : ∀ a, WideAt.IsKeyLit (lit a)

def kStr : KeyT ByteArray where
  val s := .string s
  lit s := .string s.data.toList
  good s := s.size ≤ maxLen
  inj := by
    intro a b h
    cases a; cases b
    simp at h
    cases h; rfl
  isLit _ := trivial
def kInt : KeyT Int where
  val x := .int .i64 x
  lit x := .int .i64 x
  good x := inI64 x
  inj := by intro a b h; simpa using h
  isLit _ := trivial

/-- What a type of keys and of maps must be. -/
structure MapTy (P : Program) {κ : Type} (Y : KeyT κ) (t k e : TypeId) : Prop where
  tm : P.underlying t = some (.map k e)
  te : P.underlying e = some (.int .i64)
  keyed : Maps.Keyed P k
  key : ∀ a : κ, Y.good a → keyOf P k (Y.val a) = some (Y.lit a)
  zero : ∀ w, (zeroValue e).run P w = .ok (.int .i64 0) w

/-- A map of so many keys at most, that answers f; sz: just so many. -/
def MapOf (P : Program) {κ : Type} (Y : KeyT κ) (k e : TypeId) (w : World) (v : Value) (n : Nat) (f : κ → Int) : Prop :=
  (v = .map none ∧ n = 0 ∧ ∀ a, f a = 0) ∨ ∃ b, v = .map (some b) ∧ ∃ D : DataW Unit, w.ownsMap P k (plainElem P e) b n D ∧ Maps.size D = n ∧ (∀ a : κ, D.atKey (Y.lit a) (.lit (.int .i64 0)) = .lit (.int .i64 (f a))) ∧ ∀ a : κ, Maps.has D (Y.lit a) = true → f a ≠ 0

section
variable {P : Program} {κ : Type} {Y : KeyT κ} {t k e : TypeId} {w w' : World} {v : Value} {n : Nat} {f : κ → Int}

theorem MapOf.nil : MapOf P Y k e w (.map none) 0 (fun _ => 0) := Or.inl ⟨rfl, rfl, fun _ => rfl⟩

theorem MapOf.chg {F : Nat → Prop} (h : MapOf P Y k e w v n f) (hc : Chg F w w') (hF : ∀ b, v = .map (some b) → ¬ F b) : MapOf P Y k e w' v n f := by
  rcases h with h | ⟨b, hv, D, hD, r⟩
  · exact Or.inl h
  · refine Or.inr ⟨b, hv, D, ?_, r⟩
    obtain ⟨es, clock, hb, h2⟩ := hD
    exact ⟨es, clock, (hc.block b (Array.getElem?_eq_some_iff.1 hb).1 (hF b hv)).trans hb, h2⟩

theorem MapOf.lt (h : MapOf P Y k e w v n f) {b : Nat} (hv : v = .map (some b)) : b < w.heap.size := by
  rcases h with h | ⟨b', hv', D, hD, _⟩
  · rw [h.1] at hv; cases hv
  · rw [hv'] at hv; cases hv; exact hD.lt

theorem MapOf.lookup (T : MapTy P Y t k e) (h : MapOf P Y k e w v n f) (a : κ) (ha : Y.good a) : (Instr.lookup t v (Y.val a) false).run P w = .ok (.int .i64 (f a)) w := by
  rcases h with ⟨rfl, _, h0⟩ | ⟨b, rfl, D, hD, _, hat, _⟩
  · rw [h0 a]
    obtain h := Maps.look_nil (w := w) false T.keyed T.tm (T.zero w) (T.key a ha)
    simpa using h
  · obtain ⟨c, hrun, hc, _⟩ := hD.lookup_int T.keyed T.tm T.te (T.zero w) (T.key a ha)
    rw [hat a] at hc
    injection hc with hc
    injection hc with _ hc
    rw [hrun, hc]

open Classical in
theorem MapOf.update (T : MapTy P Y t k e) {b : Nat} (h : MapOf P Y k e w (.map (some b)) n f) (a : κ) (ha : Y.good a) (hn : n < maxLen) {x : Int} (hx : inI64 x) (hx0 : x ≠ 0) :
    ∃ w', (Instr.mapUpdate t (.map (some b)) (Y.val a) (.int .i64 x)).run P w = .ok () w' ∧ MapOf P Y k e w' (.map (some b)) (if f a = 0 then n + 1 else n) (fun c => if c = a then x else f c) ∧ w.grownBy w' (some b) := by
  rcases h with ⟨hv, _⟩ | ⟨b', hv, D, hD, hsz, hat, hhas⟩
  · cases hv
  · cases hv
    have hwf : (Lit.int .i64 x).wf = true := by
      have hm : IntKind.i64.min = -9223372036854775808 := by decide
      obtain ⟨h1, h2⟩ := hx
      simp [Lit.wf, hm]
      omega
    obtain ⟨w', hrun, hown, hg⟩ := hD.update T.keyed T.tm hn (T.key a ha) (plainElem_int (H := Unit) (P := P) T.te hwf)
    have hsz' := Maps.size_put (hD.tidy T.keyed) (k := Y.lit a) (.lit (.int .i64 x))
    have hfa : f a = 0 ↔ Maps.has D (Y.lit a) = false := by
      constructor
      · intro h0
        rw [Bool.eq_false_iff]
        intro hh
        exact hhas a hh h0
      · intro hh
        have := Maps.atKey_of_not_has hh (.lit (.int .i64 0))
        rw [hat a] at this
        injection this with this
        injection this with _ this
    have hsize : Maps.size (D.put (Y.lit a) (.lit (.int .i64 x))) = if f a = 0 then n + 1 else n := by
      rw [hsz', hsz]
      by_cases h0 : f a = 0
      · rw [if_pos h0, hfa.1 h0]; rfl
      · rw [if_neg h0]
        have : Maps.has D (Y.lit a) = true := by
          cases hh : Maps.has D (Y.lit a) with
          | true => rfl
          | false => exact absurd (hfa.2 hh) h0
        rw [this]; rfl
    refine ⟨w', hrun, Or.inr ⟨b, rfl, _, ?_, hsize, fun c => ?_, fun c hc => ?_⟩, hg⟩
    · rw [← hsize]
      obtain ⟨es, clock, hb, F, hs, hD'⟩ := hown
      refine ⟨es, clock, hb, F, ?_, hD'⟩
      rw [hD', Maps.size_eq, length_read]
      exact Nat.le_refl _
    · by_cases hca : c = a
      · subst hca
        rw [Maps.atKey_put_same hD.isMap (Y.isLit c)]
        simp only [if_true]
      · rw [Maps.atKey_put_other (fun e => hca (Y.inj e)), hat c]
        simp only [if_neg hca]
    · by_cases hca : c = a
      · simp only [if_pos hca]; exact hx0
      · simp only [if_neg hca]
        rw [Maps.has_put_other (fun e => hca (Y.inj e))] at hc
        exact hhas c hc

theorem MapOf.len (T : MapTy P Y t k e) (h : MapOf P Y k e w v n f) (ty : TypeId) : (Builtin.len_ #[t] ty #[v]).run P w = .ok (.int .i64 n) w := by
  rcases h with ⟨rfl, rfl, _⟩ | ⟨b, rfl, D, hD, hsz, _⟩
  · exact Maps.len_nil T.tm ty
  · rw [hD.len T.tm ty, hsz]

theorem MapOf.made (P : Program) {κ : Type} (Y : KeyT κ) (k e : TypeId) (w : World) : MapOf P Y k e (w.alloc (.map #[] 0)) (.map (some w.heap.size)) 0 (fun _ => 0) :=
  Or.inr ⟨_, rfl, _, World.ownsMap_made w P k _, rfl, fun _ => rfl, fun a h => by cases h⟩
end
end Go.Px
