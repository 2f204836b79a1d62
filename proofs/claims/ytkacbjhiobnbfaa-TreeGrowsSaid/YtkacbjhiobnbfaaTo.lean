/-
  Lists that are lent.
-/
import Derived.Test.YtkacbjhiobnbfaaMj
namespace Go.Proofs.Ytkacbjhiobnbfaa
open Go.Px Go.Px.Scan Go.RowKit
theorem lent_at {G : Nat → Prop} {W w : World} {L : List Ch} {m : Nat} {l : List Int} (h : St G W w L) (k : Nat) (hk : L[k]? = some (lentC m l)) (hl : ∀ x ∈ l, inI64 x) : (rSlice rInt).at1 w w.heap.size (.slice (some ⟨m, 0, none⟩) l.length (l.length + 8)) l := by
  obtain ⟨F, h1, _⟩ := h.get hk
  exact lent_rd h1 hl (Chg.refl (fun _ => False) w) (fun _ _ => id)
theorem ints_in {w : World} {B : Nat} {v : Value} {l : List Int} (h : (rSlice rInt).at1 w B v l) : ∀ x ∈ l, inI64 x := by
  intro k hk
  obtain ⟨j, hj, rfl⟩ := List.getElem_of_mem hk
  obtain ⟨A', c', rfl, _⟩ := slice_form h
  obtain ⟨_, _, _, _, _, q⟩ := Go.Px.ints_at h hj
  exact q
end Go.Proofs.Ytkacbjhiobnbfaa

