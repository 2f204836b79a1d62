/-
  How data lie in memory: readings that hang on the blocks below a number alone.
-/
import Derived.Test.YtmhebgebfjnfjaaPxUser
namespace Go.Px
open Go.RowKit

/-- A way in which data of type α lie in 'size' cells. 'bytes': how much an element takes. -/
structure Rep (α : Type) where
  size : Nat
  bytes : Nat
  ok : World → Nat → List Value → α → Prop
  len : ∀ {w B cs x}, ok w B cs x → cs.length = size
  keep : ∀ {w w' B B' cs x}, ok w B cs x → B ≤ B' → (∀ b, b < B → w'.heap[b]? = w.heap[b]?) → ok w' B' cs x
  one : ∀ {w B cs x}, ok w B cs x → ∀ u ∈ cs, u.oneCell' = true
  /-- What an argument's weight gives: nothing is too great for a machine. -/
  fit : α → Prop := fun _ => True

/-- What a string or a slice of an argument may take. -/
def reachN : Nat := 0x7ffffffff000

/-- A reading out of a value of one cell. -/
def Rep.at1 {α : Type} (r : Rep α) (w : World) (B : Nat) (v : Value) (x : α) : Prop := r.ok w B [v] x
/-- .. out of a struct's value. -/
def Rep.atN {α : Type} (r : Rep α) (w : World) (B : Nat) (v : Value) (x : α) : Prop := ∃ cs, v = .agg cs.toArray ∧ r.ok w B cs x

/-- What a slice may take. -/
def maxBytes : Nat := 140737488355328

def inI64 (x : Int) : Prop := -9223372036854775808 ≤ x ∧ x ≤ 9223372036854775807

def rInt : Rep Int where
  size := 1
  bytes := 8
  ok _ _ cs x := cs = [.int .i64 x] ∧ inI64 x
  len h := by rw [h.1]; rfl
  keep h _ _ := h
  one h u hu := by rw [h.1] at hu; simp at hu; subst hu; rfl

def rBool : Rep Bool where
  size := 1
  bytes := 1
  ok _ _ cs x := cs = [.bool x]
  len h := by rw [h]; rfl
  keep h _ _ := h
  one h u hu := by rw [h] at hu; simp at hu; subst hu; rfl

def rStr : Rep ByteArray where
  size := 1
  bytes := 16
  ok _ _ cs x := cs = [.string x] ∧ x.size ≤ maxLen
  len h := by rw [h.1]; rfl
  keep h _ _ := h
  one h u hu := by rw [h.1] at hu; simp at hu; subst hu; rfl
  fit x := x.size ≤ reachN

/-- Two, one behind the other. -/
def Rep.prod {α β : Type} (r : Rep α) (s : Rep β) : Rep (α × β) where
  size := r.size + s.size
  bytes := r.bytes + s.bytes
  ok w B cs x := ∃ c1 c2, cs = c1 ++ c2 ∧ r.ok w B c1 x.1 ∧ s.ok w B c2 x.2
  len := by rintro w B cs x ⟨c1, c2, rfl, h1, h2⟩; rw [List.length_append, r.len h1, s.len h2]
  keep := by rintro w w' B B' cs x ⟨c1, c2, rfl, h1, h2⟩ hB hb; exact ⟨c1, c2, rfl, r.keep h1 hB hb, s.keep h2 hB hb⟩
  one := by
    rintro w B cs x ⟨c1, c2, rfl, h1, h2⟩ u hu
    rcases List.mem_append.1 hu with hu | hu
    · exact r.one h1 u hu
    · exact s.one h2 u hu
  fit x := r.fit x.1 ∧ s.fit x.2

/-- The same cells, read as another type. -/
def Rep.map {α β : Type} (r : Rep α) (f : β → α) : Rep β where
  size := r.size
  bytes := r.bytes
  ok w B cs x := r.ok w B cs (f x)
  len h := r.len h
  keep h := r.keep h
  one h := r.one h
  fit x := r.fit (f x)

/-- A slice: nil or not; its cells lie below B. -/
def rSlice {α : Type} (r : Rep α) : Rep (List α) where
  size := 1
  bytes := 24
  ok w B cs l := ∃ A c, cs = [.slice A l.length c] ∧ l.length ≤ c ∧ c ≤ maxLen ∧ True ∧
    (0 < l.length → ∃ b o, A = some ⟨b, o, none⟩ ∧ b < B ∧ ∀ i x, l[i]? = some x → ∃ ys, r.ok w B ys x ∧ ∀ j u, ys[j]? = some u → w.cell? ⟨b, o + (i * r.size + j), none⟩ = some u)
  len := by rintro w B cs x ⟨A, c, rfl, _⟩; rfl
  keep := by
    rintro w w' B B' cs l ⟨A, c, rfl, h1, h2, h3, h4⟩ hB hb
    refine ⟨A, c, rfl, h1, h2, h3, fun hl => ?_⟩
    obtain ⟨b, o, rfl, hbB, hc⟩ := h4 hl
    refine ⟨b, o, rfl, by omega, fun i x hi => ?_⟩
    obtain ⟨ys, hy, hcell⟩ := hc i x hi
    exact ⟨ys, r.keep hy hB hb, fun j u hu => (World.cell?_of_block (hb b hbB)).trans (hcell j u hu)⟩
  one := by rintro w B cs x ⟨A, c, rfl, _⟩ u hu; simp at hu; subst hu; rfl
  fit l := l.length * r.bytes ≤ reachN ∧ ∀ x ∈ l, r.fit x

section
variable {α : Type} {r : Rep α} {w w' : World} {B B' : Nat} {v : Value} {l : List α}

theorem Rep.below {cs : List Value} {x : α} (h : r.ok w B cs x) (hb : Below B w w') : r.ok w' B cs x := r.keep h (Nat.le_refl _) hb.block
theorem Rep.up {cs : List Value} {x : α} (h : r.ok w B cs x) (hB : B ≤ B') : r.ok w B' cs x := r.keep h hB fun _ _ => rfl

/-- A slice opened: its form, and what lies at each place. -/
theorem slice_form (h : (rSlice r).at1 w B v l) : ∃ A c, v = .slice A l.length c ∧ l.length ≤ c ∧ c ≤ maxLen ∧ True := by
  obtain ⟨A, c, hv, h1, h2, h3, _⟩ := h
  exact ⟨A, c, by simpa using hv, h1, h2, h3⟩

theorem slice_at {A : Option Addr} {n c : Nat} (h : (rSlice r).at1 w B (.slice A n c) l) {i : Nat} (hi : i < l.length) :
    ∃ b o ys, A = some ⟨b, o, none⟩ ∧ b < B ∧ r.ok w B ys l[i] ∧ ∀ j u, ys[j]? = some u → w.cell? ⟨b, o + (i * r.size + j), none⟩ = some u := by
  obtain ⟨A', c', hv, h1, h2, h3, h4⟩ := h
  obtain ⟨b, o, rfl, hb, hc⟩ := h4 (by omega)
  obtain ⟨ys, hy, hcell⟩ := hc i l[i] (List.getElem?_eq_getElem hi)
  injection hv with hv
  injection hv with hA
  exact ⟨b, o, ys, hA, hb, hy, hcell⟩

theorem ints_at {A : Option Addr} {n c : Nat} {l : List Int} (h : (rSlice rInt).at1 w B (.slice A n c) l) {i : Nat} (hi : i < l.length) :
    ∃ b o, A = some ⟨b, o, none⟩ ∧ b < B ∧ w.cell? ⟨b, o + i, none⟩ = some (.int .i64 l[i]) ∧ inI64 l[i] := by
  obtain ⟨b, o, ys, hA, hb, ⟨rfl, hr⟩, hc⟩ := slice_at h hi
  exact ⟨b, o, hA, hb, by simpa [rInt] using hc 0 _ rfl, hr⟩

theorem strs_at {A : Option Addr} {n c : Nat} {l : List ByteArray} (h : (rSlice rStr).at1 w B (.slice A n c) l) {i : Nat} (hi : i < l.length) :
    ∃ b o, A = some ⟨b, o, none⟩ ∧ b < B ∧ w.cell? ⟨b, o + i, none⟩ = some (.string l[i]) ∧ l[i].size ≤ maxLen := by
  obtain ⟨b, o, ys, hA, hb, ⟨rfl, hr⟩, hc⟩ := slice_at h hi
  exact ⟨b, o, hA, hb, by simpa [rStr] using hc 0 _ rfl, hr⟩
end

theorem wrap_succ {k n : Nat} (hk : k < n) (hn : n ≤ maxLen) : IntKind.i64.wrap ((k : Int) + 1) = (k : Int) + 1 := by
  unfold maxLen at hn
  exact IntWalk.i64_in _ (by omega)

/-- The number in a slot. -/
def iv : Value → Nat | .int _ q => q.toNat | _ => 0

end Go.Px
