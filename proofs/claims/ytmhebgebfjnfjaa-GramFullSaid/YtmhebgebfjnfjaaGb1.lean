/-
  A builder's Grammar: what it tells.
-/
import Derived.Test.YtmhebgebfjnfjaaGs6
import Derived.Test.YtmhebgebfjnfjaaGm11
import Derived.Test.YtmhebgebfjnfjaaT02H2
namespace Go.Px.Scan
open Go.Px
/-- The Lefts' handles, in the order in which they first come. -/
def leftsR (l : List (Int × List Int × Int)) : List Int := leftsOf l
/-- A nonterminal's symbol: L are the handles in order, t the terminals with the end marker. -/
def symOf (t : Nat) (L : List Int) (h : Int) : Int := if h ∈ L then (t : Int) + (L.idxOf h : Nat) else 0
def symH (t : Nat) (L : List Int) (h : Int) : Int := if h < 0 then symOf t L h else h
def nonOf (S : BS) (h : Int) : ByteArray := (S.nons[(-1 - h).toNat]?).getD ⟨#[]⟩

/-- What always holds of a builder that was made by calls. -/
structure BSwf (S : BS) : Prop where
  left : ∀ r ∈ S.rules, -(S.nons.length : Int) ≤ r.1 ∧ r.1 < 0
  right : ∀ r ∈ S.rules, ∀ h ∈ r.2.1, -(S.nons.length : Int) ≤ h ∧ h ≤ S.terms.length ∧ h ≠ 0
  lev : ∀ r ∈ S.rules, 0 ≤ r.2.2 ∧ r.2.2 ≤ S.levels.length
  start : -(S.nons.length : Int) ≤ S.start ∧ S.start ≤ 0
  sides : ∀ s ∈ S.levels, 1 ≤ s ∧ s ≤ 3
  fit : ∀ r ∈ S.rules, r.2.1.length * 8 ≤ maxBytes
  used : ∀ i, i < S.levels.length → ∃ t ∈ S.terms, t.2 = (i : Int) + 1

/-- A production that is told. -/
def pv (S : BS) (r : Int × List Int × Int) : Int × List Int × Int := (symOf (S.terms.length + 1) (leftsOf S.rules) r.1, r.2.1.map (symH (S.terms.length + 1) (leftsOf S.rules)), r.2.2)
/-- The grammar that is told. -/
def gramOf (S : BS) : Gr :=
  let L := leftsOf S.rules
  let t := S.terms.length + 1
  { terms := (⟨#[]⟩, 0) :: S.terms
    nons := L.map (nonOf S)
    levels := S.levels
    start := symOf t L (if S.start = 0 then (S.rules.head?.map (·.1)).getD 0 else S.start)
    prods := S.rules.map (pv S) }
/-- Is one told? -/
def toldB (S : BS) : Bool := decide (S.rules ≠ [] ∧ S.nons.length ≤ (leftsOf S.rules).length)

theorem symOf_snoc {t : Nat} {L : List Int} {x : Int} (hx : x ∉ L) (h : Int) : symOf t (L ++ [x]) h = if h = x then ((t + L.length : Nat) : Int) else symOf t L h := by
  unfold symOf
  by_cases e : h = x
  · subst e
    rw [if_pos (by simp), if_pos rfl, List.idxOf_append, if_neg hx]
    simp
  · rw [if_neg e]
    by_cases hm : h ∈ L
    · rw [if_pos (by simp [hm]), if_pos hm, List.idxOf_append, if_pos hm]
    · rw [if_neg (by simp [hm, e]), if_neg hm]
theorem symOf_pos {t : Nat} (ht : 0 < t) {L : List Int} {h : Int} : symOf t L h = 0 ↔ h ∉ L := by
  unfold symOf
  split
  · rename_i hm; constructor
    · intro e; omega
    · intro e; exact absurd hm e
  · rename_i hm; simp [hm]
theorem symOf_lt {t : Nat} {L : List Int} {h : Int} : 0 ≤ symOf t L h ∧ symOf t L h ≤ t + L.length := by
  unfold symOf
  split
  · rename_i hm
    have := List.idxOf_lt_length_of_mem hm
    omega
  · omega
theorem leftsOf_length_le {l : List (Int × List Int × Int)} {n : Nat} (h : ∀ r ∈ l, -(n : Int) ≤ r.1 ∧ r.1 < 0) : (leftsOf l).length ≤ n := by
  have h1 := nodup_le (l := leftsOf l) (m := (List.range n).map fun i : Nat => -1 - (i : Int)) (leftsOf_nodup l) fun x hx => by
    obtain ⟨p, hp, rfl⟩ := leftsOf_mem.1 hx
    have := h p hp
    exact List.mem_map.2 ⟨(-1 - p.1).toNat, by simp; omega, by omega⟩
  simpa using h1
end Go.Px.Scan

namespace Go.Proofs.Ytmhebgebfjnfjaa
open Go.Px Go.Px.Scan Go.RowKit
set_option maxHeartbeats 1000000
set_option linter.unusedSimpArgs false
set_option linter.unusedVariables false
set_option maxRecDepth 100000
attribute [-go_sem] Builtin.append_

/-- A builder's cells, read. -/
structure BRead (w : World) (b : Nat) (S : BS) (a0 : Option Addr) (c0 : Nat) (a2 : Option Addr) (c2 : Nat) (a4 : Option Addr) (c4 : Nat) (a5 : Option Addr) (c5 : Nat) (a6 : Option Addr) (c6 : Nat) (rs : List Value) : Prop where
  k0 : w.cell? ⟨b, 0, none⟩ = some (.slice a0 S.terms.length c0)
  k2 : w.cell? ⟨b, 2, none⟩ = some (.slice a2 S.nons.length c2)
  k4 : w.cell? ⟨b, 4, none⟩ = some (.slice a4 S.terms.length c4)
  k5 : w.cell? ⟨b, 5, none⟩ = some (.slice a5 S.levels.length c5)
  k6 : w.cell? ⟨b, 6, none⟩ = some (.slice a6 S.rules.length c6)
  k7 : w.cell? ⟨b, 7, none⟩ = some (.int .i64 S.start)
  texts : w.ownsRow 0 9 1 (.slice a0 S.terms.length c0) S.terms.length (S.terms.map fun t => .string t.1)
  nons : w.ownsRow 0 9 1 (.slice a2 S.nons.length c2) S.nons.length (S.nons.map Value.string)
  graded : w.ownsRow 0 3 1 (.slice a4 S.terms.length c4) S.terms.length (S.terms.map fun t => .int .i64 t.2)
  levels : w.ownsRow 0 3 1 (.slice a5 S.levels.length c5) S.levels.length (S.levels.map (.int .i64 ·))
  rules : w.ownsRow 0 86 3 (.slice a6 S.rules.length c6) S.rules.length ((S.rules.zip rs).flatMap fun x => ruleC x.1 x.2)
  rlen : rs.length = S.rules.length
  rights : ∀ (i : Nat) r v, S.rules[i]? = some r → rs[i]? = some v → (rSlice rInt).at1 w w.heap.size v r.2.1

theorem Row.form {w : World} {T : Nat → Nat} {tag e size : Nat} {v : Value} {n : Nat} {xs : List Value} (h : Row w T tag e size v n xs) : ∃ a c, v = .slice a n c := by
  rcases h.1.2 with ⟨h1, h2⟩ | ⟨g, cap, cur, hv, _⟩
  · exact ⟨none, 0, by rw [h1, h2]⟩
  · exact ⟨_, _, hv⟩

theorem Bld.read {w : World} {T : Nat → Nat} {b : Nat} {V : BV} {S : BS} (h : Bld w T b V S) : ∃ a0 c0 a2 c2 a4 c4 a5 c5 a6 c6 rs, ∀ w', Chg noB w w' → BRead w' b S a0 c0 a2 c2 a4 c4 a5 c5 a6 c6 rs := by
  obtain ⟨a0, c0, e0⟩ := h.terms.row.form
  obtain ⟨a2, c2, e2⟩ := h.nons.row.form
  obtain ⟨a4, c4, e4⟩ := h.graded.form
  obtain ⟨a5, c5, e5⟩ := h.levels.form
  obtain ⟨a6, c6, e6⟩ := h.rules.form
  rw [List.length_map] at e0
  refine ⟨a0, c0, a2, c2, a4, c4, a5, c5, a6, c6, V.rs, fun w' hc => ?_⟩
  have k := h.keep hc (fun _ _ => id)
  have q0 := k.terms.row.1
  rw [List.length_map, List.map_map] at q0
  exact ⟨by rw [← e0]; exact k.terms.c0, by rw [← e2]; exact k.nons.c0, by rw [← e4]; exact k.cg, by rw [← e5]; exact k.cl, by rw [← e6]; exact k.cr, k.cs,
    by rw [← e0]; exact q0, by rw [← e2]; exact k.nons.row.1, by rw [← e4]; exact k.graded.1, by rw [← e5]; exact k.levels.1, by rw [← e6]; exact k.rules.1, k.rlen, fun i r v h1 h2 => (k.rights i r v h1 h2).rd⟩

theorem info_term : (Try.prog.info? 56).map (fun i => (i.zero, i.size, i.bytes)) = some (some (.agg #[.string ⟨#[]⟩, .int .i64 0]), 2, 24) := iTerm

def termE (t : ByteArray × Int) : List Value := [.string t.1, .int .i64 t.2]
def prodE (x : (Int × List Int × Int) × Value) : List Value := [.int .i64 x.1.1, x.2, .int .i64 x.1.2.2]
/-- A grammar in new memory. -/
def GrNew (w w' : World) (v : Value) (g : Gr) : Prop :=
  ∃ A1 c1 A2 c2 A3 c3 A4 c4 vs, v = .agg #[.slice A1 g.terms.length c1, .slice A2 g.nons.length c2, .slice A3 g.levels.length c3, .int .i64 g.start, .slice A4 g.prods.length c4] ∧
    St noB w w' [rowC 56 2 A1 g.terms.length c1 (g.terms.flatMap termE), rowC 9 1 A2 g.nons.length c2 (g.nons.map Value.string), rowC 3 1 A3 g.levels.length c3 (g.levels.map (.int .i64 ·)),
      rowC 59 3 A4 g.prods.length c4 ((g.prods.zip vs).flatMap prodE), rowsC 3 1 vs (g.prods.map fun p => p.2.1.map (.int .i64 ·))] ∧
    (∀ t ∈ g.terms, t.1.size ≤ maxLen ∧ inI64 t.2) ∧ (∀ s ∈ g.nons, s.size ≤ maxLen) ∧ (∀ x ∈ g.levels, inI64 x) ∧ inI64 g.start ∧ ∀ p ∈ g.prods, inI64 p.1 ∧ (∀ x ∈ p.2.1, inI64 x) ∧ inI64 p.2.2


theorem flatMap_congr' {α β : Type} {l : List α} {f g : α → List β} (h : ∀ x ∈ l, f x = g x) : l.flatMap f = l.flatMap g := by
  induction l with
  | nil => rfl
  | cons x r ih => rw [List.flatMap_cons, List.flatMap_cons, h x (by simp), ih fun y hy => h y (by simp [hy])]

/-- Productions that are owned read as a slice. -/
theorem prods_own {w : World} {F : Nat → Prop} {A4 : Option Addr} {c4 n4 : Nat} {pl : List (Int × List Int × Int)} {vs : List Value} (h4 : (rowC 59 3 A4 n4 c4 ((pl.zip vs).flatMap prodE)).ok w F) {F' : Nat → Prop} (h5 : (rowsC 3 1 vs (pl.map fun p => p.2.1.map (.int .i64 ·))).ok w F') (hn : n4 = pl.length)
    (hp : ∀ p ∈ pl, inI64 p.1 ∧ (∀ x ∈ p.2.1, inI64 x) ∧ inI64 p.2.2) : (rSlice rPr).at1 w w.heap.size (.slice A4 n4 c4) pl := by
  have hvl : vs.length = pl.length := by have := h5.1; simpa using this
  have hsz := row_size h4
  refine ⟨A4, c4, by rw [hn], by omega, hsz.2.2, trivial, fun hpos => ?_⟩
  have hlen : ((pl.zip vs).flatMap prodE).length = pl.length * 3 := by rw [hsz.1, hn]
  obtain ⟨g, rfl, _, _, _, hg⟩ := row_at h4 (j := 0) (by omega)
  refine ⟨g, 0, rfl, hg, fun i x hi => ?_⟩
  have hil := (List.getElem?_eq_some_iff.1 hi).1
  have hx := (List.getElem?_eq_some_iff.1 hi).2
  have hiv : i < vs.length := by omega
  obtain ⟨a, n, c, hv, hrow⟩ := h5.2 i vs[i] (x.2.1.map (.int .i64 ·)) (List.getElem?_eq_getElem hiv) (by rw [List.getElem?_map, hi]; rfl)
  have hxm : x ∈ pl := List.mem_of_getElem? hi
  have hn2 : n = x.2.1.length := by have := (row_size hrow).1; simpa using this.symm
  have hrd : (rSlice rInt).at1 w w.heap.size (.slice a n c) x.2.1 := by
    rw [hn2]
    exact slice_of_own (r := rInt) (enc := fun x => [Value.int .i64 x]) (base := 0) (e := 3) (by rw [flat_one, ← hn2]; exact hrow.1) (fun _ _ => rfl) (fun y hy => ⟨rfl, (hp x hxm).2.1 y hy⟩) (Nat.le_refl _)
  refine ⟨prodE (x, vs[i]), ⟨[_], _, rfl, ⟨rfl, (hp x hxm).1⟩, [_], _, rfl, by rw [hv]; exact hrd, rfl, (hp x hxm).2.2⟩, fun j u hj => ?_⟩
  have hjl : j < 3 := by have := (List.getElem?_eq_some_iff.1 hj).1; simpa [prodE] using this
  have key : ∀ (l : List (Int × List Int × Int)) (vs : List Value) (i : Nat) (x : Int × List Int × Int) (v : Value), l[i]? = some x → vs[i]? = some v → ((l.zip vs).flatMap prodE)[i * 3 + j]? = (prodE (x, v))[j]? := by
    intro l
    induction l with
    | nil => intro vs i x v h; simp at h
    | cons y l ih =>
      intro vs i x v h h2
      cases vs with
      | nil => simp at h2
      | cons z vs =>
        cases i with
        | zero => simp at h h2; subst h h2; rw [List.zip_cons_cons, List.flatMap_cons, List.getElem?_append_left (by simp [prodE]; omega)]; simp
        | succ i =>
          rw [List.zip_cons_cons, List.flatMap_cons, List.getElem?_append_right (by simp [prodE]; omega)]
          have := ih vs i x v (by simpa using h) (by simpa using h2)
          rw [← this]
          congr 1
          simp [prodE]; omega
  have hk := key pl vs i x vs[i] hi (List.getElem?_eq_getElem hiv)
  rw [hj] at hk
  have hlt := (List.getElem?_eq_some_iff.1 hk).1
  obtain ⟨g', e, hcell, _⟩ := row_at h4 hlt
  injection e with e; injection e with e
  subst e
  rw [(List.getElem?_eq_some_iff.1 hk).2] at hcell
  have hr3 : rPr.size = 3 := rfl
  rw [hr3, Nat.zero_add]
  exact hcell

theorem GrNew.read {w w' : World} {v : Value} {g : Gr} (h : GrNew w w' v g) : rGram.atN w' w'.heap.size v g := by
  obtain ⟨A1, c1, A2, c2, A3, c3, A4, c4, vs, rfl, hst, h1, h2, h3, h4, h5⟩ := h
  obtain ⟨F1, o1, _⟩ := hst.get (k := 0) rfl
  obtain ⟨F2, o2, _⟩ := hst.get (k := 1) rfl
  obtain ⟨F3, o3, _⟩ := hst.get (k := 2) rfl
  obtain ⟨F4, o4, _⟩ := hst.get (k := 3) rfl
  obtain ⟨F5, o5, _⟩ := hst.get (k := 4) rfl
  refine rGram_mk ?_ ?_ ?_ rfl h4 (prods_own o4 o5 rfl h5)
  · exact slice_of_own (r := rTerm) (enc := termE) (base := 0) (e := 56) o1.1 (fun _ _ => rfl) (fun x hx => ⟨[_], _, rfl, ⟨rfl, (h1 x hx).1⟩, rfl, (h1 x hx).2⟩) (Nat.le_refl _)
  · exact slice_of_own (r := rStr) (enc := fun s => [Value.string s]) (base := 0) (e := 9) (by rw [flat_one]; exact o2.1) (fun _ _ => rfl) (fun x hx => ⟨rfl, h2 x hx⟩) (Nat.le_refl _)
  · exact slice_of_own (r := rInt) (enc := fun s => [Value.int .i64 s]) (base := 0) (e := 3) (by rw [flat_one]; exact o3.1) (fun _ _ => rfl) (fun x hx => ⟨rfl, h3 x hx⟩) (Nat.le_refl _)
theorem GrNew.chg {w w' : World} {v : Value} {g : Gr} (h : GrNew w w' v g) : Chg noB w w' := by
  obtain ⟨A1, c1, A2, c2, A3, c3, A4, c4, vs, rfl, hst, _⟩ := h
  exact hst.chg
end Go.Proofs.Ytmhebgebfjnfjaa
