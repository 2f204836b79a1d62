/-
  Slices that a call owns: appends.
-/
import Derived.Test.YtmhebgebfjnfjaaPxMore
import Derived.Maps.AppendAt
namespace Go.Px
open Go.RowKit

theorem ownsRow_chg {F : Nat → Prop} {w w' : World} {base e size : Nat} {v : Value} {n : Nat} {xs : List Value} (h : w.ownsRow base e size v n xs) (hc : Chg F w w') (hF : ∀ i, base ≤ i → ¬ F i) : w'.ownsRow base e size v n xs := by
  refine ⟨h.1, ?_⟩
  rcases h.2 with h2 | ⟨g, cap, cur, hv, hb, hg, hr⟩
  · exact Or.inl h2
  · refine Or.inr ⟨g, cap, cur, hv, hb, ?_, hr⟩
    rw [hc.block g (Array.getElem?_eq_some_iff.1 hg).1 (hF g hb)]
    exact hg

theorem ownsRow_block {w : World} {base e size : Nat} {v : Value} {n : Nat} {xs : List Value} (h : w.ownsRow base e size v n xs) {k : Nat} (hk : v.ownBlock = some k) : base ≤ k ∧ k < w.heap.size := by
  rcases h.2 with ⟨rfl, _⟩ | ⟨g, cap, cur, rfl, hb, hg, _⟩
  · cases hk
  · cases hk; exact ⟨hb, (Array.getElem?_eq_some_iff.1 hg).1⟩

theorem ownsRow_base {w : World} {base base' e size : Nat} {v : Value} {n : Nat} {xs : List Value} (h : w.ownsRow base e size v n xs) (hb : base' ≤ base) : w.ownsRow base' e size v n xs :=
  ⟨h.1, h.2.imp id fun ⟨g, cap, cur, hv, hg, r⟩ => ⟨g, cap, cur, hv, Nat.le_trans hb hg, r⟩⟩

/-- What is owned reads as a slice. -/
theorem slice_of_own {α : Type} {r : Rep α} {enc : α → List Value} {w : World} {base e B : Nat} {v : Value} {l : List α} (h : w.ownsRow base e r.size v l.length (l.flatMap enc))
    (hsz : ∀ x ∈ l, (enc x).length = r.size) (hr : ∀ x ∈ l, r.ok w B (enc x) x) (hB : w.heap.size ≤ B) : (rSlice r).at1 w B v l := by
  rcases h.2 with ⟨rfl, hn⟩ | ⟨g, cap, cur, rfl, _, hg, hnc, hcm, hcs, htake⟩
  · exact ⟨none, 0, by rw [hn], by omega, by simp [maxLen], trivial, fun h => by omega⟩
  · refine ⟨some ⟨g, 0, none⟩, cap, rfl, hnc, hcm, trivial, fun _ => ⟨g, 0, rfl, ?_, fun i x hi => ⟨enc x, hr x (List.mem_of_getElem? hi), fun j u hj => ?_⟩⟩⟩
    · have := (Array.getElem?_eq_some_iff.1 hg).1; omega
    · have hil := (List.getElem?_eq_some_iff.1 hi).1
      have hx := (List.getElem?_eq_some_iff.1 hi).2
      have hjl : j < r.size := by have := (List.getElem?_eq_some_iff.1 hj).1; rw [hsz x (List.mem_of_getElem? hi)] at this; exact this
      have key : ∀ (l : List α) (i : Nat) (x : α), (∀ x ∈ l, (enc x).length = r.size) → l[i]? = some x → (l.flatMap enc)[i * r.size + j]? = (enc x)[j]? := by
        intro l
        induction l with
        | nil => intro i x _ h; simp at h
        | cons y l ih =>
          intro i x hs h
          cases i with
          | zero =>
            simp at h; subst h
            rw [List.flatMap_cons, Nat.zero_mul, Nat.zero_add, List.getElem?_append_left (by rw [hs y (by simp)]; exact hjl)]
          | succ i =>
            rw [List.flatMap_cons, List.getElem?_append_right (by rw [hs y (by simp), Nat.succ_mul]; omega), hs y (by simp), Nat.succ_mul, show i * r.size + r.size + j - r.size = i * r.size + j by omega]
            exact ih i x (fun z hz => hs z (by simp [hz])) (by simpa using h)
      have hk := key l i x hsz hi
      rw [hj, ← htake] at hk
      have hk2 : cur.toList[i * r.size + j]? = some u := by
        rw [List.getElem?_take] at hk
        split at hk
        · exact hk
        · cases hk
      simp only [World.cell?, hg, Nat.zero_add]
      simpa using hk2

/-- One element is appended. -/
theorem append_own {P : Program} {X : Pan} {w : World} {K : Value → World → Prop} (t ty e : TypeId) {i : TypeInfo} {z : Value} {size bytes base : Nat} (ht : P.underlying t = some (.slice e)) (hi : P.info? e = some i) (hz : i.zero = some z)
    (hsize : i.size = size) (hby : i.bytes = bytes) (hzs : z.cells.size = size) (hsz : 0 < size) {v : Value} {n : Nat} {xs : List Value} (hown : w.ownsRow base e size v n xs)
    {a : Addr} {c : Nat} {news : List Value} (hl : news.length = size) (hnews : ∀ j u, news[j]? = some u → w.cell? (a.add j) = some u) (h1 : ∀ u ∈ news, u.oneCell' = true)
    (h63 : n + 1 ≤ maxLen) (hbytes : (n + 1) * bytes ≤ maxBytes) (hbase : base ≤ w.heap.size)
    (hK : ∀ g cap w', w'.ownsRow base e size (.slice (some ⟨g, 0, none⟩) (n + 1) cap) (n + 1) (xs ++ news) → w.grownBy w' v.ownBlock → (v.ownBlock = some g ∨ g = w.heap.size) → K (.slice (some ⟨g, 0, none⟩) (n + 1) cap) w') :
    RES X ((Builtin.append_ #[t, t] ty #[v, .slice (some a) 1 c]).run P w) K := by
  obtain ⟨v', w', hrun, hown', hgr, _, hb⟩ := run_append_own_at (P := P) w base t ty e i z size bytes ht hi hz hsize hby hzs hsz v n xs hown a 1 c news (by rw [hl, Nat.one_mul]) hnews h1 h63 hbytes hbase
  rw [hrun, RES_ok]
  rcases hown'.2 with ⟨_, hn⟩ | ⟨g, cap, cur, rfl, hr⟩
  · omega
  · refine hK g cap w' hown' hgr ?_
    rcases hb with hb | hb
    · exact Or.inl hb.symm
    · right; simpa [Value.ownBlock] using hb

/-- What lies in a new block. -/
theorem alloc_cells (w : World) (l : List Value) (t : TypeId) {n : Nat} (hn : n = w.heap.size) : ∀ j u, l[j]? = some u → (w.alloc (.cells l.toArray t)).cell? ((⟨n, 0, none⟩ : Addr).add j) = some u := by
  intro j u hj
  subst hn
  rw [Addr.add_lit, World.cell?_alloc_new, List.getElem?_toArray, Nat.zero_add]
  exact hj

theorem new_cell (w : World) (cs : Array Value) (t : TypeId) {n : Nat} (hn : n = w.heap.size) (i : Nat) : (w.alloc (.cells cs t)).cell? ⟨n, i, none⟩ = cs[i]? := by subst hn; exact World.cell?_alloc_new w cs t i
theorem new_frozen (w : World) (cs : Array Value) (t : TypeId) {n : Nat} (hn : n = w.heap.size) (i : Nat) : (w.alloc (.cells cs t)).frozen? ⟨n, i, none⟩ = false := by subst hn; exact World.frozen?_alloc_new w cs t i

theorem grown_chg {F : Nat → Prop} {w w' : World} {row : Option Nat} (hg : w.grownBy w' row) (hr : ∀ k, row = some k → F k) : Chg F w w' :=
  Chg.grown (Chg.refl F w) hg fun k hk => Or.inl (hr k hk)
end Go.Px
