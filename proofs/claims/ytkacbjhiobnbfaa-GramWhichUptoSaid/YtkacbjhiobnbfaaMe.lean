/-
  Texts of this claim: Gb1, Gb2, Gb3, Gb4.
-/
import Derived.Test.YtkacbjhiobnbfaaMd
import Derived.Test.YtkacbjhiobnbfaaMc
import Derived.Test.YtkacbjhiobnbfaaGb
import Derived.Test.YtkacbjhiobnbfaaGd
/-
  A builder's Grammar: what it tells.
-/
namespace Go.Px.Scan
open Go.Px
/-- The Lefts' handles, in the order in which they first come. -/
def leftsR (l : List (Int × List Int × Int)) : List Int := leftsOf l
/-- A nonterminal's symbol: L are the handles in order, t the terminals with the end marker. -/
def symOf (t : Nat) (L : List Int) (h : Int) : Int := if h ∈ L then (t : Int) + (L.idxOf h : Nat) else 0
def symH (t : Nat) (L : List Int) (h : Int) : Int := if h < 0 then symOf t L h else h
def nonOf (S : BS) (h : Int) : ByteArray := (S.nons[(-1 - h).toNat]?).getD ⟨#[]⟩

/-- What always holds of a builder that was made by calls. -/
structure BSwf (S : BS) : Prop where
  left : ∀ r ∈ S.rules, -(S.nons.length : Int) ≤ r.1 ∧ r.1 < 0
  right : ∀ r ∈ S.rules, ∀ h ∈ r.2.1, -(S.nons.length : Int) ≤ h ∧ h ≤ S.terms.length ∧ h ≠ 0
  lev : ∀ r ∈ S.rules, 0 ≤ r.2.2 ∧ r.2.2 ≤ S.levels.length
  start : -(S.nons.length : Int) ≤ S.start ∧ S.start ≤ 0
  sides : ∀ s ∈ S.levels, 1 ≤ s ∧ s ≤ 3
  fit : ∀ r ∈ S.rules, r.2.1.length * 8 ≤ maxBytes
  used : ∀ i, i < S.levels.length → ∃ t ∈ S.terms, t.2 = (i : Int) + 1

/-- A production that is told. -/
def pv (S : BS) (r : Int × List Int × Int) : Int × List Int × Int := (symOf (S.terms.length + 1) (leftsOf S.rules) r.1, r.2.1.map (symH (S.terms.length + 1) (leftsOf S.rules)), r.2.2)
/-- The grammar that is told. -/
def gramOf (S : BS) : Gr :=
  let L := leftsOf S.rules
  let t := S.terms.length + 1
  { terms := (⟨#[]⟩, 0) :: S.terms
    nons := L.map (nonOf S)
    levels := S.levels
    start := symOf t L (if S.start = 0 then (S.rules.head?.map (·.1)).getD 0 else S.start)
    prods := S.rules.map (pv S) }
/-- Is one told? -/
def toldB (S : BS) : Bool := decide (S.rules ≠ [] ∧ S.nons.length ≤ (leftsOf S.rules).length)

theorem symOf_snoc {t : Nat} {L : List Int} {x : Int} (hx : x ∉ L) (h : Int) : symOf t (L ++ [x]) h = if h = x then ((t + L.length : Nat) : Int) else symOf t L h := by
  unfold symOf
  by_cases e : h = x
  · subst e
    rw [if_pos (by simp), if_pos rfl, List.idxOf_append, if_neg hx]
    simp
  · rw [if_neg e]
    by_cases hm : h ∈ L
    · rw [if_pos (by simp [hm]), if_pos hm, List.idxOf_append, if_pos hm]
    · rw [if_neg (by simp [hm, e]), if_neg hm]
theorem symOf_pos {t : Nat} (ht : 0 < t) {L : List Int} {h : Int} : symOf t L h = 0 ↔ h ∉ L := by
  unfold symOf
  split
  · rename_i hm; constructor
    · intro e; omega
    · intro e; exact absurd hm e
  · rename_i hm; simp [hm]
theorem symOf_lt {t : Nat} {L : List Int} {h : Int} : 0 ≤ symOf t L h ∧ symOf t L h ≤ t + L.length := by
  unfold symOf
  split
  · rename_i hm
    have := List.idxOf_lt_length_of_mem hm
    omega
  · omega
theorem leftsOf_length_le {l : List (Int × List Int × Int)} {n : Nat} (h : ∀ r ∈ l, -(n : Int) ≤ r.1 ∧ r.1 < 0) : (leftsOf l).length ≤ n := by
  have h1 := nodup_le (l := leftsOf l) (m := (List.range n).map fun i : Nat => -1 - (i : Int)) (leftsOf_nodup l) fun x hx => by
    obtain ⟨p, hp, rfl⟩ := leftsOf_mem.1 hx
    have := h p hp
    exact List.mem_map.2 ⟨(-1 - p.1).toNat, by simp; omega, by omega⟩
  simpa using h1
end Go.Px.Scan

namespace Go.Proofs.Ytkacbjhiobnbfaa
open Go.Px Go.Px.Scan Go.RowKit
set_option maxHeartbeats 1000000
set_option linter.unusedSimpArgs false
set_option linter.unusedVariables false
set_option maxRecDepth 100000
attribute [-go_sem] Builtin.append_

/-- A builder's cells, read. -/
structure BRead (w : World) (b : Nat) (S : BS) (a0 : Option Addr) (c0 : Nat) (a2 : Option Addr) (c2 : Nat) (a4 : Option Addr) (c4 : Nat) (a5 : Option Addr) (c5 : Nat) (a6 : Option Addr) (c6 : Nat) (rs : List Value) : Prop where
  k0 : w.cell? ⟨b, 0, none⟩ = some (.slice a0 S.terms.length c0)
  k2 : w.cell? ⟨b, 2, none⟩ = some (.slice a2 S.nons.length c2)
  k4 : w.cell? ⟨b, 4, none⟩ = some (.slice a4 S.terms.length c4)
  k5 : w.cell? ⟨b, 5, none⟩ = some (.slice a5 S.levels.length c5)
  k6 : w.cell? ⟨b, 6, none⟩ = some (.slice a6 S.rules.length c6)
  k7 : w.cell? ⟨b, 7, none⟩ = some (.int .i64 S.start)
  texts : w.ownsRow 0 9 1 (.slice a0 S.terms.length c0) S.terms.length (S.terms.map fun t => .string t.1)
  nons : w.ownsRow 0 9 1 (.slice a2 S.nons.length c2) S.nons.length (S.nons.map Value.string)
  graded : w.ownsRow 0 3 1 (.slice a4 S.terms.length c4) S.terms.length (S.terms.map fun t => .int .i64 t.2)
  levels : w.ownsRow 0 3 1 (.slice a5 S.levels.length c5) S.levels.length (S.levels.map (.int .i64 ·))
  rules : w.ownsRow 0 178 3 (.slice a6 S.rules.length c6) S.rules.length ((S.rules.zip rs).flatMap fun x => ruleC x.1 x.2)
  rlen : rs.length = S.rules.length
  rights : ∀ (i : Nat) r v, S.rules[i]? = some r → rs[i]? = some v → (rSlice rInt).at1 w w.heap.size v r.2.1

theorem Row.form {w : World} {T : Nat → Nat} {tag e size : Nat} {v : Value} {n : Nat} {xs : List Value} (h : Row w T tag e size v n xs) : ∃ a c, v = .slice a n c := by
  rcases h.1.2 with ⟨h1, h2⟩ | ⟨g, cap, cur, hv, _⟩
  · exact ⟨none, 0, by rw [h1, h2]⟩
  · exact ⟨_, _, hv⟩

theorem Bld.read {w : World} {T : Nat → Nat} {b : Nat} {V : BV} {S : BS} (h : Bld w T b V S) : ∃ a0 c0 a2 c2 a4 c4 a5 c5 a6 c6 rs, ∀ w', Chg noB w w' → BRead w' b S a0 c0 a2 c2 a4 c4 a5 c5 a6 c6 rs := by
  obtain ⟨a0, c0, e0⟩ := h.terms.row.form
  obtain ⟨a2, c2, e2⟩ := h.nons.row.form
  obtain ⟨a4, c4, e4⟩ := h.graded.form
  obtain ⟨a5, c5, e5⟩ := h.levels.form
  obtain ⟨a6, c6, e6⟩ := h.rules.form
  rw [List.length_map] at e0
  refine ⟨a0, c0, a2, c2, a4, c4, a5, c5, a6, c6, V.rs, fun w' hc => ?_⟩
  have k := h.keep hc (fun _ _ => id)
  have q0 := k.terms.row.1
  rw [List.length_map, List.map_map] at q0
  exact ⟨by rw [← e0]; exact k.terms.c0, by rw [← e2]; exact k.nons.c0, by rw [← e4]; exact k.cg, by rw [← e5]; exact k.cl, by rw [← e6]; exact k.cr, k.cs,
    by rw [← e0]; exact q0, by rw [← e2]; exact k.nons.row.1, by rw [← e4]; exact k.graded.1, by rw [← e5]; exact k.levels.1, by rw [← e6]; exact k.rules.1, k.rlen, fun i r v h1 h2 => (k.rights i r v h1 h2).rd⟩

theorem info_term : (Try.prog.info? 106).map (fun i => (i.zero, i.size, i.bytes)) = some (some (.agg #[.string ⟨#[]⟩, .int .i64 0]), 2, 24) := iTerm

def termE (t : ByteArray × Int) : List Value := [.string t.1, .int .i64 t.2]
def prodE (x : (Int × List Int × Int) × Value) : List Value := [.int .i64 x.1.1, x.2, .int .i64 x.1.2.2]
/-- A grammar in new memory. -/
def GrNew (w w' : World) (v : Value) (g : Gr) : Prop :=
  ∃ A1 c1 A2 c2 A3 c3 A4 c4 vs, v = .agg #[.slice A1 g.terms.length c1, .slice A2 g.nons.length c2, .slice A3 g.levels.length c3, .int .i64 g.start, .slice A4 g.prods.length c4] ∧
    St noB w w' [rowC 106 2 A1 g.terms.length c1 (g.terms.flatMap termE), rowC 9 1 A2 g.nons.length c2 (g.nons.map Value.string), rowC 3 1 A3 g.levels.length c3 (g.levels.map (.int .i64 ·)),
      rowC 47 3 A4 g.prods.length c4 ((g.prods.zip vs).flatMap prodE), rowsC 3 1 vs (g.prods.map fun p => p.2.1.map (.int .i64 ·))] ∧
    (∀ t ∈ g.terms, t.1.size ≤ maxLen ∧ inI64 t.2) ∧ (∀ s ∈ g.nons, s.size ≤ maxLen) ∧ (∀ x ∈ g.levels, inI64 x) ∧ inI64 g.start ∧ ∀ p ∈ g.prods, inI64 p.1 ∧ (∀ x ∈ p.2.1, inI64 x) ∧ inI64 p.2.2


theorem flatMap_congr' {α β : Type} {l : List α} {f g : α → List β} (h : ∀ x ∈ l, f x = g x) : l.flatMap f = l.flatMap g := by
  induction l with
  | nil => rfl
  | cons x r ih => rw [List.flatMap_cons, List.flatMap_cons, h x (by simp), ih fun y hy => h y (by simp [hy])]

/-- Productions that are owned read as a slice. -/
theorem prods_own {w : World} {F : Nat → Prop} {A4 : Option Addr} {c4 n4 : Nat} {pl : List (Int × List Int × Int)} {vs : List Value} (h4 : (rowC 47 3 A4 n4 c4 ((pl.zip vs).flatMap prodE)).ok w F) {F' : Nat → Prop} (h5 : (rowsC 3 1 vs (pl.map fun p => p.2.1.map (.int .i64 ·))).ok w F') (hn : n4 = pl.length)
    (hp : ∀ p ∈ pl, inI64 p.1 ∧ (∀ x ∈ p.2.1, inI64 x) ∧ inI64 p.2.2) : (rSlice rPr).at1 w w.heap.size (.slice A4 n4 c4) pl := by
  have hvl : vs.length = pl.length := by have := h5.1; simpa using this
  have hsz := row_size h4
  refine ⟨A4, c4, by rw [hn], by omega, hsz.2.2, trivial, fun hpos => ?_⟩
  have hlen : ((pl.zip vs).flatMap prodE).length = pl.length * 3 := by rw [hsz.1, hn]
  obtain ⟨g, rfl, _, _, _, hg⟩ := row_at h4 (j := 0) (by omega)
  refine ⟨g, 0, rfl, hg, fun i x hi => ?_⟩
  have hil := (List.getElem?_eq_some_iff.1 hi).1
  have hx := (List.getElem?_eq_some_iff.1 hi).2
  have hiv : i < vs.length := by omega
  obtain ⟨a, n, c, hv, hrow⟩ := h5.2 i vs[i] (x.2.1.map (.int .i64 ·)) (List.getElem?_eq_getElem hiv) (by rw [List.getElem?_map, hi]; rfl)
  have hxm : x ∈ pl := List.mem_of_getElem? hi
  have hn2 : n = x.2.1.length := by have := (row_size hrow).1; simpa using this.symm
  have hrd : (rSlice rInt).at1 w w.heap.size (.slice a n c) x.2.1 := by
    rw [hn2]
    exact slice_of_own (r := rInt) (enc := fun x => [Value.int .i64 x]) (base := 0) (e := 3) (by rw [flat_one, ← hn2]; exact hrow.1) (fun _ _ => rfl) (fun y hy => ⟨rfl, (hp x hxm).2.1 y hy⟩) (Nat.le_refl _)
  refine ⟨prodE (x, vs[i]), ⟨[_], _, rfl, ⟨rfl, (hp x hxm).1⟩, [_], _, rfl, by rw [hv]; exact hrd, rfl, (hp x hxm).2.2⟩, fun j u hj => ?_⟩
  have hjl : j < 3 := by have := (List.getElem?_eq_some_iff.1 hj).1; simpa [prodE] using this
  have key : ∀ (l : List (Int × List Int × Int)) (vs : List Value) (i : Nat) (x : Int × List Int × Int) (v : Value), l[i]? = some x → vs[i]? = some v → ((l.zip vs).flatMap prodE)[i * 3 + j]? = (prodE (x, v))[j]? := by
    intro l
    induction l with
    | nil => intro vs i x v h; simp at h
    | cons y l ih =>
      intro vs i x v h h2
      cases vs with
      | nil => simp at h2
      | cons z vs =>
        cases i with
        | zero => simp at h h2; subst h h2; rw [List.zip_cons_cons, List.flatMap_cons, List.getElem?_append_left (by simp [prodE]; omega)]; simp
        | succ i =>
          rw [List.zip_cons_cons, List.flatMap_cons, List.getElem?_append_right (by simp [prodE]; omega)]
          have := ih vs i x v (by simpa using h) (by simpa using h2)
          rw [← this]
          congr 1
          simp [prodE]; omega
  have hk := key pl vs i x vs[i] hi (List.getElem?_eq_getElem hiv)
  rw [hj] at hk
  have hlt := (List.getElem?_eq_some_iff.1 hk).1
  obtain ⟨g', e, hcell, _⟩ := row_at h4 hlt
  injection e with e; injection e with e
  subst e
  rw [(List.getElem?_eq_some_iff.1 hk).2] at hcell
  have hr3 : rPr.size = 3 := rfl
  rw [hr3, Nat.zero_add]
  exact hcell

theorem GrNew.read {w w' : World} {v : Value} {g : Gr} (h : GrNew w w' v g) : rGram.atN w' w'.heap.size v g := by
  obtain ⟨A1, c1, A2, c2, A3, c3, A4, c4, vs, rfl, hst, h1, h2, h3, h4, h5⟩ := h
  obtain ⟨F1, o1, _⟩ := hst.get (k := 0) rfl
  obtain ⟨F2, o2, _⟩ := hst.get (k := 1) rfl
  obtain ⟨F3, o3, _⟩ := hst.get (k := 2) rfl
  obtain ⟨F4, o4, _⟩ := hst.get (k := 3) rfl
  obtain ⟨F5, o5, _⟩ := hst.get (k := 4) rfl
  refine rGram_mk ?_ ?_ ?_ rfl h4 (prods_own o4 o5 rfl h5)
  · exact slice_of_own (r := rTerm) (enc := termE) (base := 0) (e := 106) o1.1 (fun _ _ => rfl) (fun x hx => ⟨[_], _, rfl, ⟨rfl, (h1 x hx).1⟩, rfl, (h1 x hx).2⟩) (Nat.le_refl _)
  · exact slice_of_own (r := rStr) (enc := fun s => [Value.string s]) (base := 0) (e := 9) (by rw [flat_one]; exact o2.1) (fun _ _ => rfl) (fun x hx => ⟨rfl, h2 x hx⟩) (Nat.le_refl _)
  · exact slice_of_own (r := rInt) (enc := fun s => [Value.int .i64 s]) (base := 0) (e := 3) (by rw [flat_one]; exact o3.1) (fun _ _ => rfl) (fun x hx => ⟨rfl, h3 x hx⟩) (Nat.le_refl _)
theorem GrNew.chg {w w' : World} {v : Value} {g : Gr} (h : GrNew w w' v g) : Chg noB w w' := by
  obtain ⟨A1, c1, A2, c2, A3, c3, A4, c4, vs, rfl, hst, _⟩ := h
  exact hst.chg
end Go.Proofs.Ytkacbjhiobnbfaa

/-
  A builder's Grammar: the walk.
-/
namespace Go.Proofs.Ytkacbjhiobnbfaa
open Go.Px Go.Px.Scan Go.RowKit
set_option maxHeartbeats 1000000
set_option linter.unusedSimpArgs false
set_option linter.unusedVariables false
set_option maxRecDepth 100000
attribute [-go_sem] Builtin.append_
attribute [-go_sem] gram_Builder_Grammar.b5 gram_Builder_Grammar.b7 gram_Builder_Grammar.b11 gram_Builder_Grammar.b9 gram_Builder_Grammar.b10 gram_Builder_Grammar.b20 gram_Builder_Grammar.b29

def zG : List Value := [.slice none 0 0, .slice none 0 0, .slice none 0 0, .int .i64 0, .slice none 0 0]

/-- What Grammar answers. -/
def GrAns (S : BS) (w : World) (v : Value) (w' : World) : Prop :=
  Chg noB w w' ∧ (toldB S = true → ∃ vg, v = .tuple #[vg, .int .i64 0] ∧ GrNew w w' vg (gramOf S)) ∧ (toldB S = false → v = .tuple #[.agg zG.toArray, .int .i64 1])

/-- The grammar's box under way, behind the terminals: rows of nonterminals and productions. -/
def boxG (x4 : Nat) (At : Option Addr) (nt ct : Nat) (An : Option Addr) (nn cn : Nat) (Al : Option Addr) (nl cl : Nat) (Ap : Option Addr) (np cp : Nat) : Ch :=
  boxC x4 27 [.slice At nt ct, .slice An nn cn, .slice Al nl cl, .int .i64 0, .slice Ap np cp]

section
variable {R : Ending → World → Prop} {w : World} {b q x4 : Nat} {S : BS} {a0 : Option Addr} {c0 : Nat} {a2 : Option Addr} {c2 : Nat} {a4 : Option Addr} {c4 : Nat} {a5 : Option Addr} {c5 : Nat} {a6 : Option Addr} {c6 : Nat} {rs : List Value} (hr : ∀ w', Chg noB w w' → BRead w' b S a0 c0 a2 c2 a4 c4 a5 c5 a6 c6 rs) (ok : BSok S) (hwf : BSwf S)
  {al : Option Addr} {cl : Nat}
include hr ok

theorem texts_ok {w4 : World} {q2 : Nat} (h4 : St noB w w4 [boxC q 27 zG, rowC 106 2 (some ⟨q2, 0, none⟩) 1 1 [.string ⟨#[]⟩, .int .i64 0], rowC 3 1 al S.levels.length cl (S.levels.map (.int .i64 ·)), boxG x4 (some ⟨q2, 0, none⟩) 1 1 none 0 0 al S.levels.length cl none 0 0])
    (hK : ∀ At ct w', St noB w w' [boxC q 27 zG, rowC 106 2 At (S.terms.length + 1) ct ((gramOf S).terms.flatMap termE), rowC 3 1 al S.levels.length cl (S.levels.map (.int .i64 ·)), boxG x4 At (S.terms.length + 1) ct none 0 0 al S.levels.length cl none 0 0] →
      gram_Builder_Grammar.b5 R (.pointer (some ⟨b, 0, none⟩)) (.pointer (some ⟨q, 0, none⟩)) (.pointer (some ⟨x4, 0, none⟩)) w') :
    gram_Builder_Grammar.l37 R (.pointer (some ⟨b, 0, none⟩)) (.pointer (some ⟨q, 0, none⟩)) (.pointer (some ⟨x4, 0, none⟩)) (.slice a0 S.terms.length c0) (.int .i64 S.terms.length) (.int .i64 0) w4 := by
  have hsy := ok.syms
  refine gram_Builder_Grammar.l37_intro _ _ _ _ _ _ _ _ (fun y w' => ∃ (k : Nat) (At : Option Addr) (ct : Nat), y = .int .i64 k ∧ k ≤ S.terms.length ∧
    St noB w w' [boxC q 27 zG, rowC 106 2 At (k + 1) ct ([.string ⟨#[]⟩, .int .i64 0] ++ (S.terms.take k).flatMap termE), rowC 3 1 al S.levels.length cl (S.levels.map (.int .i64 ·)), boxG x4 At (k + 1) ct none 0 0 al S.levels.length cl none 0 0]) (fun y _ => S.terms.length - iv y) ⟨0, _, _, rfl, by omega, by simpa using h4⟩ ?_
  rintro _ w5 ⟨k, At, ct, rfl, hk, hst⟩ C hC
  simp -dsimp [go_sem]
  refine SPL_intro (fun p1 => ?_) (fun p1 => ?_) <;> simp at p1
  · have hst2 := hst.old ((Chg.refl noB w5).drew)
    have z := hr _ hst2.chg
    have y := hst2.box 3 rfl
    simp [boxAt] at y
    obtain ⟨g0, e0, d0, _⟩ := row_at (w := w5) (F := fun _ => True) (e := 9) (size := 1) (a := a0) (n := S.terms.length) (c := c0) ⟨(hr _ hst.chg).texts, fun _ _ => trivial⟩ (j := k) (by simpa using p1)
    obtain ⟨g1, e1, d1, _⟩ := row_at (w := w5.drew) (F := fun _ => True) (e := 3) (size := 1) (a := a4) (n := S.terms.length) (c := c4) ⟨z.graded, fun _ _ => trivial⟩ (j := k) (by simpa using p1)
    subst e0 e1
    simp only [List.getElem_map] at d0 d1
    simp -dsimp [go_sem, p1, d0, d1, y, z.k4]
    refine hst.append1d 1 rfl uTerms iTerm rfl (by omega) (news := [.string S.terms[k].1, .int .i64 S.terms[k].2]) rfl (by simp [Value.oneCell']) (by unfold maxLen; omega) (by unfold maxBytes; omega) ?_
    intro g' cap w6 h6
    have y6 := h6.box 3 rfl
    simp [boxAt] at y6
    have wk : IntKind.i64.wrap ((k : Int) + 1) = (k : Int) + 1 := IntWalk.i64_in _ (by omega)
    have h7 := h6.set 3 rfl 0 (.slice (some ⟨g', 0, none⟩) (k + 1 + 1) cap)
    have htk : S.terms.take (k + 1) = S.terms.take k ++ [S.terms[k]] := List.take_succ_eq_append_getElem p1
    have em : [Value.string ⟨#[]⟩, .int .i64 0] ++ (S.terms.take k).flatMap termE ++ [.string S.terms[k].1, .int .i64 S.terms[k].2] = [Value.string ⟨#[]⟩, .int .i64 0] ++ (S.terms.take (k + 1)).flatMap termE := by
      rw [htk, List.flatMap_append, List.append_assoc]; rfl
    rw [em] at h7
    simp -dsimp [go_sem, y6, wk]
    exact hC _ _ ⟨k + 1, _, _, by simp, by omega, h7⟩ (by simp [iv]; omega)
  · have hka : k = S.terms.length := by omega
    subst hka
    rw [List.take_length] at hst
    exact hK _ _ _ hst

omit hr ok in
include hwf in
theorem leftsR_pos (k : Nat) : (leftsOf (S.rules.take k)).length ≤ S.nons.length := leftsOf_length_le fun r hr' => hwf.left r (List.mem_of_mem_take hr')

include hwf in
theorem lefts_ok {w4 : World} {At : Option Addr} {ct : Nat} {tx : List Value} (h4 : St noB w w4 [boxC q 27 zG, rowC 106 2 At (S.terms.length + 1) ct tx, rowC 3 1 al S.levels.length cl (S.levels.map (.int .i64 ·)), boxG x4 At (S.terms.length + 1) ct none 0 0 al S.levels.length cl none 0 0])
    (hK : ∀ m An cn w', St noB w w' [boxC q 27 zG, rowC 106 2 At (S.terms.length + 1) ct tx, rowC 3 1 al S.levels.length cl (S.levels.map (.int .i64 ·)), boxG x4 At (S.terms.length + 1) ct An (leftsOf S.rules).length cn al S.levels.length cl none 0 0,
        mapC Try.prog kInt 3 3 (.map (some m)) (leftsOf S.rules).length (symOf (S.terms.length + 1) (leftsOf S.rules)), rowC 9 1 An (leftsOf S.rules).length cn (((leftsOf S.rules).map (nonOf S)).map Value.string)] →
      gram_Builder_Grammar.b7 R (.pointer (some ⟨b, 0, none⟩)) (.pointer (some ⟨q, 0, none⟩)) (.pointer (some ⟨x4, 0, none⟩)) (.map (some m)) w') :
    gram_Builder_Grammar.b5 R (.pointer (some ⟨b, 0, none⟩)) (.pointer (some ⟨q, 0, none⟩)) (.pointer (some ⟨x4, 0, none⟩)) w4 := by
  have hsy := ok.syms
  have hpr := ok.prods
  unfold gram_Builder_Grammar.b5
  have h5 := h4.map Try.prog kInt 3 3
  have z5 := hr _ h5.chg
  simp -dsimp [go_sem, mkInt, z5.k6]
  generalize w4.heap.size = m at h5 ⊢
  generalize w4.alloc (.map #[] 0) = w5 at h5 z5 ⊢
  have h6 := h5.nilRow 9 1
  refine gram_Builder_Grammar.l32_intro _ _ _ _ _ _ _ _ _ (fun y w' => ∃ (k n : Nat) (An : Option Addr) (cn : Nat), y = .int .i64 k ∧ k ≤ S.rules.length ∧ n = (leftsOf (S.rules.take k)).length ∧
    St noB w w' [boxC q 27 zG, rowC 106 2 At (S.terms.length + 1) ct tx, rowC 3 1 al S.levels.length cl (S.levels.map (.int .i64 ·)), boxG x4 At (S.terms.length + 1) ct An n cn al S.levels.length cl none 0 0,
        mapC Try.prog kInt 3 3 (.map (some m)) n (symOf (S.terms.length + 1) (leftsOf (S.rules.take k))), rowC 9 1 An n cn (((leftsOf (S.rules.take k)).map (nonOf S)).map Value.string)]) (fun y _ => S.rules.length - iv y) ⟨0, 0, none, 0, rfl, by omega, rfl, by
      have : symOf (S.terms.length + 1) (leftsOf (S.rules.take 0)) = fun _ => 0 := by funext x; simp [symOf, leftsOf]
      rw [this]
      simpa [leftsOf] using h6⟩ ?_
  rintro _ w6 ⟨k, n, An, cn, rfl, hk, hn, hst⟩ C hC
  have hln := leftsR_pos hwf k
  simp -dsimp [go_sem]
  refine SPL_intro (fun p1 => ?_) (fun p1 => ?_) <;> simp at p1
  · have z := hr _ hst.chg
    have hrk : k < rs.length := by rw [z.rlen]; exact p1
    obtain ⟨g, rfl, hcell, _⟩ := row_elem (F := fun _ => True) (a := a6) (c := c6) (n := S.rules.length) (e := 178) (size := 3) (enc := fun x : (Int × List Int × Int) × Value => ruleC x.1 x.2) (i := k) (x := (S.rules[k], rs[k])) ⟨z.rules, fun _ _ => trivial⟩ (fun _ _ => rfl) (by omega) (by simp [List.getElem?_zip_eq_some, p1, hrk])
    have d0 := hcell 0 _ rfl
    have d1 := hcell 1 _ rfl
    have d2 := hcell 2 _ rfl
    simp only [Nat.add_zero] at d0
    have hleft := hwf.left S.rules[k] (List.getElem_mem p1)
    have hii : inI64 S.rules[k].1 := by unfold inI64; omega
    obtain ⟨ar, cr, hv, _⟩ := slice_form (z.rights k S.rules[k] rs[k] (List.getElem?_eq_getElem p1) (List.getElem?_eq_getElem hrk))
    rw [hv] at d1
    have h7 := hst.alloc #[.int .i64 S.rules[k].1, rs[k], .int .i64 S.rules[k].2.2] 178
    rw [hv] at h7
    have mg : (Instr.lookup 179 (.map (some m)) (.int .i64 S.rules[k].1) false).run Try.prog (w6.alloc (.cells #[.int .i64 S.rules[k].1, .slice ar S.rules[k].2.1.length cr, .int .i64 S.rules[k].2.2] 178)) = _ := h7.mapGet mInt 4 rfl S.rules[k].1 hii
    simp -dsimp [go_sem, p1, d0, d1, d2, mg]
    generalize w6.heap.size = rb at h7 ⊢
    generalize w6.alloc (.cells #[.int .i64 S.rules[k].1, .slice ar S.rules[k].2.1.length cr, .int .i64 S.rules[k].2.2] 178) = w7 at h7 mg ⊢
    have wk : IntKind.i64.wrap ((k : Int) + 1) = (k : Int) + 1 := IntWalk.i64_in _ (by omega)
    have htk : S.rules.take (k + 1) = S.rules.take k ++ [S.rules[k]] := List.take_succ_eq_append_getElem p1
    have hlt : leftsOf (S.rules.take (k + 1)) = addL (leftsOf (S.rules.take k)) S.rules[k].1 := by rw [htk, leftsOf_snoc]
    have y7 := h7.box 3 rfl
    have yr := h7.box 6 rfl
    simp [boxAt] at y7 yr
    refine SPL_intro (fun p2 => ?_) (fun p2 => ?_) <;> simp at p2
    · have hno := (symOf_pos (by omega)).1 p2
      have hadd : addL (leftsOf (S.rules.take k)) S.rules[k].1 = leftsOf (S.rules.take k) ++ [S.rules[k].1] := if_neg hno
      rw [hadd] at hlt
      have hln1 := leftsR_pos hwf (k + 1)
      rw [hlt, List.length_append] at hln1
      have wa : IntKind.i64.wrap ((S.terms.length : Int) + 1 + n) = (S.terms.length : Int) + 1 + n := IntWalk.i64_in _ (by simp at hln1; omega)
      obtain ⟨w8, hrun, h8⟩ := h7.mapPut mInt 4 rfl S.rules[k].1 hii (by unfold maxLen; omega) (x := (S.terms.length : Int) + 1 + n) (by unfold inI64; omega) (by omega) (n + 1) (symOf (S.terms.length + 1) (leftsOf (S.rules.take (k + 1)))) (fun _ => rfl) (fun h => absurd p2 h)
        (by rw [hlt, symOf_snoc hno, if_pos rfl, ← hn]; simp) (fun c hc => by rw [hlt, symOf_snoc hno, if_neg hc])
      have hrun' : (Instr.mapUpdate 179 (.map (some m)) (.int .i64 S.rules[k].1) (.int .i64 ((S.terms.length : Int) + 1 + n))).run Try.prog w7 = _ := hrun
      have h8d := h8.old ((Chg.refl noB w8).drew)
      have y8 := h8d.box 3 rfl
      have yr8 := h8d.box 6 rfl
      simp [boxAt] at y8 yr8
      have z8 := hr _ h8d.chg
      obtain ⟨j, hj⟩ : ∃ j : Nat, S.rules[k].1 = -1 - (j : Int) := ⟨(-1 - S.rules[k].1).toNat, by omega⟩
      have hjl : j < S.nons.length := by omega
      obtain ⟨g2, e2, dn, _⟩ := row_at (F := fun _ => True) (e := 9) (size := 1) (a := a2) (n := S.nons.length) (c := c2) ⟨z8.nons, fun _ _ => trivial⟩ (j := j) (by simpa using hjl)
      subst e2
      simp only [List.getElem_map] at dn
      have ws : IntKind.i64.wrap (-1 - S.rules[k].1) = (j : Int) := by rw [show -1 - S.rules[k].1 = (j : Int) by omega]; exact IntWalk.i64_in _ (by omega)
      have hnon : nonOf S S.rules[k].1 = S.nons[j] := by
        unfold nonOf
        rw [show (-1 - S.rules[k].1).toNat = j by omega, List.getElem?_eq_getElem hjl]; rfl
      simp -dsimp [go_sem, y7, yr, wa, hrun', y8, yr8, z8.k2, ws, hjl, dn]
      refine h8.append1d 5 rfl uStrs iStr rfl (by omega) (news := [.string S.nons[j]]) rfl (by simp [Value.oneCell']) (by unfold maxLen; omega) (by unfold maxBytes; omega) ?_
      intro g' cap w9 h9
      have y9 := h9.box 3 rfl
      simp [boxAt] at y9
      have h10 := h9.set 3 rfl 1 (.slice (some ⟨g', 0, none⟩) (n + 1) cap)
      simp -dsimp [go_sem, y9, wk]
      have e3 : ((leftsOf (S.rules.take k)).map (nonOf S)).map Value.string ++ [.string S.nons[j]] = ((leftsOf (S.rules.take (k + 1))).map (nonOf S)).map Value.string := by
        rw [hlt, List.map_append, List.map_append, ← hnon]; rfl
      have h11 := h10.take 6
      rw [e3] at h11
      refine hC _ _ ⟨k + 1, n + 1, some ⟨g', 0, none⟩, cap, by simp, by omega, by rw [hlt, List.length_append, ← hn]; rfl, ?_⟩ (by simp [iv]; omega)
      exact h11
    · have hyes : S.rules[k].1 ∈ leftsOf (S.rules.take k) := Classical.byContradiction fun h => p2 ((symOf_pos (by omega)).2 h)
      have hadd : addL (leftsOf (S.rules.take k)) S.rules[k].1 = leftsOf (S.rules.take k) := if_pos hyes
      rw [hadd] at hlt
      simp -dsimp [go_sem, wk]
      refine hC _ _ ⟨k + 1, n, An, cn, by simp, by omega, by rw [hlt]; exact hn, ?_⟩ (by simp [iv]; omega)
      have := h7.take 6
      rw [hlt]
      exact this
  · have hka : k = S.rules.length := by omega
    subst hka
    rw [List.take_length] at hst hn
    subst hn
    exact hK _ _ _ _ hst

omit hr ok in
theorem size2_ct {w : World} {A : Option Addr} {n c o : Nat} (h : w.cell? ⟨b, o, none⟩ = some (.slice A n c)) : Ct Try.prog gram_names_size.id #[.pointer (some ⟨b, o, none⟩)] w fun v w' => v = .int .i64 n ∧ w = w' := by
  refine gram_names_size.ct fun R hR => ?_
  unfold gram_names_size.run gram_names_size.b1
  simp [go_sem, h]
  exact hR _ _ ⟨rfl, rfl⟩

/-- Behind the nonterminals. -/
def LG (S : BS) (q x4 : Nat) (At : Option Addr) (ct : Nat) (al : Option Addr) (cl : Nat) (m : Nat) (An : Option Addr) (cn : Nat) (Ap : Option Addr) (np cp : Nat) : List Ch :=
  [boxC q 27 zG, rowC 106 2 At (S.terms.length + 1) ct ((gramOf S).terms.flatMap termE), rowC 3 1 al S.levels.length cl (S.levels.map (.int .i64 ·)), boxG x4 At (S.terms.length + 1) ct An (leftsOf S.rules).length cn al S.levels.length cl Ap np cp,
    mapC Try.prog kInt 3 3 (.map (some m)) (leftsOf S.rules).length (symOf (S.terms.length + 1) (leftsOf S.rules)), rowC 9 1 An (leftsOf S.rules).length cn (((leftsOf S.rules).map (nonOf S)).map Value.string)]

include hwf in
theorem prods_ok {w4 : World} {At : Option Addr} {ct m : Nat} {An : Option Addr} {cn : Nat} (h4 : St noB w w4 (LG S q x4 At ct al cl m An cn none 0 0))
    (hK : ∀ Ap cp vs w', St noB w w' (LG S q x4 At ct al cl m An cn Ap S.rules.length cp ++ [rowC 47 3 Ap S.rules.length cp (((S.rules.map (pv S)).zip vs).flatMap prodE), rowsC 3 1 vs ((S.rules.map (pv S)).map fun p => p.2.1.map (.int .i64 ·))]) →
      gram_Builder_Grammar.b9 R (.pointer (some ⟨b, 0, none⟩)) (.pointer (some ⟨q, 0, none⟩)) (.pointer (some ⟨x4, 0, none⟩)) (.map (some m)) w') :
    gram_Builder_Grammar.b11 R (.pointer (some ⟨b, 0, none⟩)) (.pointer (some ⟨q, 0, none⟩)) (.pointer (some ⟨x4, 0, none⟩)) (.map (some m)) w4 := by
  have hsy := ok.syms
  have hpr := ok.prods
  have z4 := hr _ h4.chg
  unfold gram_Builder_Grammar.b11
  simp -dsimp [go_sem, z4.k6]
  have h5 := h4.nilRow 47 3
  have h6 := h5.push (c := rowsC 3 1 [] []) ⟨rfl, fun i v xs h => by simp at h⟩
  refine gram_Builder_Grammar.l13_intro _ _ _ _ _ _ _ _ _ (fun y w' => ∃ (k : Nat) (Ap : Option Addr) (cp : Nat) (vs : List Value), y = .int .i64 k ∧ k ≤ S.rules.length ∧
    St noB w w' (LG S q x4 At ct al cl m An cn Ap k cp ++ [rowC 47 3 Ap k cp ((((S.rules.take k).map (pv S)).zip vs).flatMap prodE), rowsC 3 1 vs (((S.rules.take k).map (pv S)).map fun p => p.2.1.map (.int .i64 ·))])) (fun y _ => S.rules.length - iv y) ⟨0, none, 0, [], rfl, by omega, by simpa using h6⟩ ?_
  rintro _ w6 ⟨k, Ap, cp, vs, rfl, hk, hst⟩ C hC
  simp -dsimp [go_sem]
  refine SPL_intro (fun p1 => ?_) (fun p1 => ?_) <;> simp at p1
  · have z := hr _ hst.chg
    have hrk : k < rs.length := by rw [z.rlen]; exact p1
    obtain ⟨g, rfl, hcell, _⟩ := row_elem (F := fun _ => True) (a := a6) (c := c6) (n := S.rules.length) (e := 178) (size := 3) (enc := fun x : (Int × List Int × Int) × Value => ruleC x.1 x.2) (i := k) (x := (S.rules[k], rs[k])) ⟨z.rules, fun _ _ => trivial⟩ (fun _ _ => rfl) (by omega) (by simp [List.getElem?_zip_eq_some, p1, hrk])
    have d0 := hcell 0 _ rfl
    have d1 := hcell 1 _ rfl
    have d2 := hcell 2 _ rfl
    simp only [Nat.add_zero] at d0
    have hleft := hwf.left S.rules[k] (List.getElem_mem p1)
    have hlev := hwf.lev S.rules[k] (List.getElem_mem p1)
    have hright := hwf.right S.rules[k] (List.getElem_mem p1)
    have hfit := hwf.fit S.rules[k] (List.getElem_mem p1)
    have hii : inI64 S.rules[k].1 := by unfold inI64; omega
    have hri := z.rights k S.rules[k] rs[k] (List.getElem?_eq_getElem p1) (List.getElem?_eq_getElem hrk)
    obtain ⟨ar, cr, hv, hr1, hr2, _⟩ := slice_form hri
    rw [hv] at d1 hri
    generalize hrule : S.rules[k] = r at d0 d1 d2 hleft hlev hright hfit hii hri hv hr1
    generalize hsym : symOf (S.terms.length + 1) (leftsOf S.rules) r.1 = sl
    have h7 := (hst.alloc #[.int .i64 r.1, .slice ar r.2.1.length cr, .int .i64 r.2.2] 178)
    have mg : (Instr.lookup 179 (.map (some m)) (.int .i64 r.1) false).run Try.prog (w6.alloc (.cells #[.int .i64 r.1, .slice ar r.2.1.length cr, .int .i64 r.2.2] 178)) = _ := h7.mapGet mInt 4 rfl r.1 hii
    have h8 := h7.alloc #[.int .i64 sl, .slice none 0 0, .int .i64 r.2.2] 47
    have hs7 : (w6.alloc (.cells #[.int .i64 r.1, .slice ar r.2.1.length cr, .int .i64 r.2.2] 178)).heap.size = w6.heap.size + 1 := by simp
    rw [hs7] at h8
    rw [hsym] at mg
    simp -dsimp [go_sem, p1, d0, d1, d2, mg]
    generalize w6.heap.size = rb at h7 h8 ⊢
    generalize (w6.alloc (.cells #[.int .i64 r.1, .slice ar r.2.1.length cr, .int .i64 r.2.2] 178)).alloc (.cells #[.int .i64 sl, .slice none 0 0, .int .i64 r.2.2] 47) = w8 at h8 ⊢
    have h9 := h8.nilRow 3 1
    have hslb : inI64 sl := by
      have := symOf_lt (t := S.terms.length + 1) (L := leftsOf S.rules) (h := r.1)
      have := leftsOf_length_le hwf.left
      rw [hsym] at *; unfold inI64; omega
    refine gram_Builder_Grammar.l23_intro _ _ _ _ _ _ _ _ _ _ (fun y w' => ∃ (j : Nat) (Ar : Option Addr) (cr' : Nat), y = .int .i64 j ∧ j ≤ r.2.1.length ∧
      St noB w w' (LG S q x4 At ct al cl m An cn Ap k cp ++ [rowC 47 3 Ap k cp ((((S.rules.take k).map (pv S)).zip vs).flatMap prodE), rowsC 3 1 vs (((S.rules.take k).map (pv S)).map fun p => p.2.1.map (.int .i64 ·)),
        boxC rb 178 [.int .i64 r.1, .slice ar r.2.1.length cr, .int .i64 r.2.2], boxC (rb + 1) 47 [.int .i64 sl, .slice Ar j cr', .int .i64 r.2.2], rowC 3 1 Ar j cr' (((r.2.1.take j).map (symH (S.terms.length + 1) (leftsOf S.rules))).map (.int .i64 ·))])) (fun y _ => r.2.1.length - iv y) ⟨0, none, 0, rfl, by omega, by simpa [LG] using h9⟩ ?_
    rintro _ w10 ⟨j, Ar, cr', rfl, hj, hst10⟩ C' hC'
    have z10 := hr _ hst10.chg
    have hri10 := z10.rights k r rs[k] (by rw [List.getElem?_eq_getElem p1, hrule]) (List.getElem?_eq_getElem hrk)
    rw [hv] at hri10
    have y10 := hst10.box 9 rfl
    simp [boxAt] at y10
    simp -dsimp [go_sem]
    refine SPL_intro (fun p2 => ?_) (fun p2 => ?_) <;> simp at p2
    · obtain ⟨b1, o1, rfl, hb1, e1, e2⟩ := Go.Px.ints_at hri10 p2
      have hel := hright _ (List.getElem_mem p2)
      have wj := wrap_succ p2 (Nat.le_trans hr1 hr2)
      have mg2 : (Instr.lookup 179 (.map (some m)) (.int .i64 r.2.1[j]) false).run Try.prog w10 = _ := hst10.mapGet mInt 4 rfl r.2.1[j] e2
      have htk : r.2.1.take (j + 1) = r.2.1.take j ++ [r.2.1[j]] := List.take_succ_eq_append_getElem p2
      have fin : ∀ x : Int, x = symH (S.terms.length + 1) (leftsOf S.rules) r.2.1[j] → gram_Builder_Grammar.b29 R C C' (.pointer (some ⟨rb + 1, 0, none⟩)) (.int .i64 x) (.int .i64 j) w10 := by
        intro x hx
        unfold gram_Builder_Grammar.b29
        simp -dsimp [go_sem, y10]
        have hjm : j < maxLen := by omega
        refine hst10.append1 10 rfl uInts iInt rfl (by omega) (news := [.int .i64 x]) rfl (by simp [Value.oneCell']) (by omega) ?_ ?_
        · have := hfit; omega
        intro g' cap w11 h11
        have y11 := h11.box 9 rfl
        simp [boxAt] at y11
        have h12 := h11.set 9 rfl 1 (.slice (some ⟨g', 0, none⟩) (j + 1) cap)
        simp -dsimp [go_sem, y11, wj]
        have em : ((r.2.1.take j).map (symH (S.terms.length + 1) (leftsOf S.rules))).map (Value.int .i64 ·) ++ [.int .i64 x] = ((r.2.1.take (j + 1)).map (symH (S.terms.length + 1) (leftsOf S.rules))).map (Value.int .i64 ·) := by
          rw [htk, List.map_append, List.map_append, hx]; rfl
        rw [em] at h12
        exact hC' _ _ ⟨j + 1, _, _, by simp, by omega, h12⟩ (by simp [iv]; omega)
      simp -dsimp [go_sem, p2, e1]
      refine SPL_intro (fun p3 => ?_) (fun p3 => ?_) <;> simp at p3
      · simp -dsimp [go_sem, mg2]
        exact fin _ (by unfold symH; rw [if_pos p3])
      · exact fin _ (by unfold symH; rw [if_neg (by omega)])
    · have hja : j = r.2.1.length := by omega
      subst hja
      rw [List.take_length] at hst10
      have y3 := hst10.box 3 rfl
      simp [boxAt] at y3
      have hc' := (hst10.rowSize 10 rfl)
      unfold gram_Builder_Grammar.b20
      simp -dsimp [go_sem, y10, y3]
      refine hst10.append1 6 rfl uProds iProd rfl (by omega) (news := [.int .i64 sl, .slice Ar r.2.1.length cr', .int .i64 r.2.2]) rfl (by simp [Value.oneCell']) (by unfold maxLen; omega) (by unfold maxBytes; omega) ?_
      intro g' cap w11 h11
      have y11 := h11.box 3 rfl
      simp [boxAt] at y11
      have h12 := h11.set 3 rfl 4 (.slice (some ⟨g', 0, none⟩) (k + 1) cap)
      have wk : IntKind.i64.wrap ((k : Int) + 1) = (k : Int) + 1 := IntWalk.i64_in _ (by omega)
      simp -dsimp [go_sem, y11, wk]
      obtain ⟨Fv, hov, _⟩ := hst10.get (k := 7) rfl
      have hvl : vs.length = k := by have := hov.1; simp at this; omega
      have h13 := h12.merge (j := 10) (k := 7) rfl rfl (by omega) (e := rowsC 3 1 (vs ++ [.slice Ar r.2.1.length cr']) ((((S.rules.take k).map (pv S)).map fun p => p.2.1.map (.int .i64 ·)) ++ [(r.2.1.map (symH (S.terms.length + 1) (leftsOf S.rules))).map (.int .i64 ·)])) fun F F' h1 h2 => rowsC_snoc h1 h2
      have htk : S.rules.take (k + 1) = S.rules.take k ++ [r] := by rw [← hrule]; exact List.take_succ_eq_append_getElem p1
      have e1 : ((S.rules.take (k + 1)).map (pv S)) = (S.rules.take k).map (pv S) ++ [pv S r] := by rw [htk, List.map_append]; rfl
      have e2 : (((S.rules.take (k + 1)).map (pv S)).map fun p => p.2.1.map (Value.int .i64 ·)) = (((S.rules.take k).map (pv S)).map fun p => p.2.1.map (Value.int .i64 ·)) ++ [(r.2.1.map (symH (S.terms.length + 1) (leftsOf S.rules))).map (.int .i64 ·)] := by rw [e1, List.map_append]; rfl
      have e3 : ((((S.rules.take (k + 1)).map (pv S)).zip (vs ++ [.slice Ar r.2.1.length cr'])).flatMap prodE) = ((((S.rules.take k).map (pv S)).zip vs).flatMap prodE) ++ [.int .i64 sl, .slice Ar r.2.1.length cr', .int .i64 r.2.2] := by
        rw [e1, List.zip_append (by simp [hvl]; omega), List.flatMap_append]
        congr 1
        simp [prodE, pv, hsym]
      rw [← e2, ← e3] at h13
      refine hC _ _ ⟨k + 1, _, _, _, by simp, by omega, h13.take 8⟩ (by simp [iv]; omega)
  · have hka : k = S.rules.length := by omega
    subst hka
    rw [List.take_length] at hst
    exact hK _ _ _ _ hst

include hwf in
theorem end_ok {w4 : World} {At : Option Addr} {ct m : Nat} {An : Option Addr} {cn : Nat} {Ap : Option Addr} {cp : Nat} {vs : List Value} (hne : S.rules ≠ []) (h4 : St noB w w4 (LG S q x4 At ct al cl m An cn Ap S.rules.length cp ++ [rowC 47 3 Ap S.rules.length cp (((S.rules.map (pv S)).zip vs).flatMap prodE), rowsC 3 1 vs ((S.rules.map (pv S)).map fun p => p.2.1.map (.int .i64 ·))]))
    (hR : ∀ vg w', GrNew w w' vg (gramOf S) → R (.returned (.tuple #[vg, .int .i64 0])) w') :
    gram_Builder_Grammar.b9 R (.pointer (some ⟨b, 0, none⟩)) (.pointer (some ⟨q, 0, none⟩)) (.pointer (some ⟨x4, 0, none⟩)) (.map (some m)) w4 := by
  have hsy := ok.syms
  have hpr := ok.prods
  have hpos : 0 < S.rules.length := List.length_pos_iff.2 hne
  obtain ⟨Fv, hov, _⟩ := h4.get (k := 7) rfl
  have hvl : vs.length = S.rules.length := by have := hov.1; simpa using this
  obtain ⟨Fp, hop, _⟩ := h4.get (k := 6) rfl
  obtain ⟨g, rfl, hcell, _⟩ := row_elem (enc := prodE) (i := 0) (x := (pv S S.rules[0], vs[0])) hop (fun _ _ => rfl) (by omega) (by simp [List.getElem?_zip_eq_some, hpos, hvl])
  have d0 : w4.cell? ⟨g, 0, none⟩ = some (.int .i64 (symOf (S.terms.length + 1) (leftsOf S.rules) S.rules[0].1)) := hcell 0 _ rfl
  have hL := leftsOf_length_le hwf.left
  have symb : ∀ h : Int, inI64 (symOf (S.terms.length + 1) (leftsOf S.rules) h) := fun h => by
    have := symOf_lt (t := S.terms.length + 1) (L := leftsOf S.rules) (h := h)
    unfold inI64; omega
  have symb' : ∀ h : Int, h ≤ S.terms.length → -(S.nons.length : Int) ≤ h → inI64 (symH (S.terms.length + 1) (leftsOf S.rules) h) := fun h h1 h2 => by
    unfold symH
    split
    · exact symb h
    · unfold inI64; omega
  have y4 := h4.box 3 rfl
  simp [boxAt] at y4
  have h5 := h4.set 3 rfl 3 (.int .i64 (symOf (S.terms.length + 1) (leftsOf S.rules) S.rules[0].1))
  have z5 := hr _ h5.chg
  have fin : ∀ (w5 : World) (st : Int), st = (gramOf S).start → St noB w w5 [boxC q 27 zG, rowC 106 2 At (S.terms.length + 1) ct ((gramOf S).terms.flatMap termE), rowC 3 1 al S.levels.length cl (S.levels.map (.int .i64 ·)),
      boxC x4 27 [.slice At (S.terms.length + 1) ct, .slice An (leftsOf S.rules).length cn, .slice al S.levels.length cl, .int .i64 st, .slice (some ⟨g, 0, none⟩) S.rules.length cp],
      mapC Try.prog kInt 3 3 (.map (some m)) (leftsOf S.rules).length (symOf (S.terms.length + 1) (leftsOf S.rules)), rowC 9 1 An (leftsOf S.rules).length cn (((leftsOf S.rules).map (nonOf S)).map Value.string),
      rowC 47 3 (some ⟨g, 0, none⟩) S.rules.length cp (((S.rules.map (pv S)).zip vs).flatMap prodE), rowsC 3 1 vs ((S.rules.map (pv S)).map fun p => p.2.1.map (.int .i64 ·))] →
      gram_Builder_Grammar.b10 R (.pointer (some ⟨q, 0, none⟩)) (.pointer (some ⟨x4, 0, none⟩)) w5 := by
    intro w5 st hst h6
    unfold gram_Builder_Grammar.b10
    have y6 := h6.box 3 rfl
    have yq := h6.box 0 rfl
    simp [boxAt] at y6
    simp [boxAt, zG] at yq
    have h7 := ((((h6.set 0 rfl 0 (.slice At (S.terms.length + 1) ct)).set 0 rfl 1 (.slice An (leftsOf S.rules).length cn)).set 0 rfl 2 (.slice al S.levels.length cl)).set 0 rfl 3 (.int .i64 st)).set 0 rfl 4 (.slice (some ⟨g, 0, none⟩) S.rules.length cp)
    have yq7 := h7.box 0 rfl
    simp [boxAt, zG] at yq7
    simp -dsimp [go_sem, y6, yq, yq7]
    refine hR _ _ ⟨At, ct, An, cn, al, cl, some ⟨g, 0, none⟩, cp, vs, ?_, h7.pick [1, 5, 2, 6, 7] (by decide) ?_, ?_, ?_, ?_, ?_, ?_⟩
    · simp [gramOf, hst]
    · simp [gramOf, zG]
    · intro t ht
      rcases List.mem_cons.1 ht with rfl | ht
      · exact ⟨by unfold maxLen; decide, by unfold inI64; simp⟩
      · have h1 := (ok.tnam t ht).2.1
        have h2 := ok.grd t ht
        have := ok.lev
        exact ⟨by unfold maxLen; omega, by unfold inI64; omega⟩
    · intro s hs
      obtain ⟨h, _, rfl⟩ := List.mem_map.1 hs
      unfold nonOf
      cases e : S.nons[(-1 - h).toNat]? with
      | none => unfold maxLen; decide
      | some t => have := (ok.nnam t (List.mem_of_getElem? e)).2.1; simp only [Option.getD_some]; unfold maxLen; omega
    · intro x hx
      have := hwf.sides x hx
      unfold inI64; omega
    · exact symb _
    · intro p hp
      obtain ⟨r, hr', rfl⟩ := List.mem_map.1 hp
      have h1 := hwf.lev r hr'
      have := ok.lev
      refine ⟨symb _, fun x hx => ?_, by show inI64 r.2.2; unfold inI64; omega⟩
      obtain ⟨h, hh, rfl⟩ := List.mem_map.1 hx
      have := hwf.right r hr' h hh
      exact symb' h this.2.1 this.1
  unfold gram_Builder_Grammar.b9
  have z4 := hr _ h4.chg
  have hk7 := z5.k7
  simp -dsimp [go_sem, y4, hpos, d0, hk7]
  have hh : (S.rules.head?.map (·.1)).getD 0 = S.rules[0].1 := by
    rw [List.head?_eq_getElem?, List.getElem?_eq_getElem hpos]; rfl
  refine SPL_intro (fun p1 => ?_) (fun p1 => ?_) <;> simp at p1
  · have hsi : inI64 S.start := by have := hwf.start; unfold inI64; omega
    have mg : (Instr.lookup 179 (.map (some m)) (.int .i64 S.start) false).run Try.prog (w4.setCell ⟨x4, 3, none⟩ (.int .i64 (symOf (S.terms.length + 1) (leftsOf S.rules) S.rules[0].1))) = _ := h5.mapGet mInt 4 rfl S.start hsi
    have y5 := h5.box 3 rfl
    simp [boxAt] at y5
    simp -dsimp [go_sem, hk7, mg, y5]
    have h6 := h5.set 3 rfl 3 (.int .i64 (symOf (S.terms.length + 1) (leftsOf S.rules) S.start))
    exact fin _ _ (by simp [gramOf, p1]) h6
  · exact fin _ _ (by simp [gramOf, p1, hh]) h5
end

set_option maxHeartbeats 4000000 in
theorem Grammar_ct {w : World} {T : Nat → Nat} {b : Nat} {V : BV} {S : BS} (h : Bld w T b V S) (hwf : BSwf S) :
    Ct Try.prog gram_Builder_Grammar.id #[.pointer (some ⟨b, 0, none⟩)] w fun v w' => GrAns S w v w' := by
  refine gram_Builder_Grammar.ct fun R hR => ?_
  obtain ⟨a0, c0, a2, c2, a4, c4, a5, c5, a6, c6, rs, hr⟩ := h.read
  have ok := h.ok
  have hsy := ok.syms
  have hpr := ok.prods
  have hlv := ok.lev
  have z0 := hr w (Chg.refl _ _)
  have no : ∀ w', Chg noB w w' → ¬ (S.rules ≠ [] ∧ S.nons.length ≤ (leftsOf S.rules).length) → R (.returned (.tuple #[.agg zG.toArray, .int .i64 1])) w' := fun w' hc hn =>
    hR _ _ ⟨hc, fun ht => absurd (of_decide_eq_true ht) hn, fun _ => rfl⟩
  unfold gram_Builder_Grammar.run
  have h1 := (St.refl noB w).alloc #[.slice none 0 0, .slice none 0 0, .slice none 0 0, .int .i64 0, .slice none 0 0] 27
  have z1 := hr _ h1.chg
  simp -dsimp [go_sem, z1.k6]
  generalize w.heap.size = q at h1 ⊢
  generalize w.alloc (.cells #[.slice none 0 0, .slice none 0 0, .slice none 0 0, .int .i64 0, .slice none 0 0] 27) = w1 at h1 z1 ⊢
  have y1 := h1.box 0 rfl
  simp [boxAt] at y1
  refine SPL_intro (fun q1 => ?_) (fun q1 => ?_) <;> simp at q1
  · simp -dsimp [go_sem, y1]
    refine no _ ?_ fun hn => hn.1 q1
    exact (((((h1.set 0 rfl 0 _).set 0 rfl 1 _).set 0 rfl 2 _).set 0 rfl 3 _).set 0 rfl 4 _).chg
  have h2 := h1.lit 106 2 1 #[.string ⟨#[]⟩, .int .i64 0] (by simp [maxLen]) rfl
  have z2 := hr _ h2.chg
  simp -dsimp [go_sem, z2.k5]
  generalize w1.heap.size = q2 at h2 ⊢
  generalize w1.alloc (.cells #[.string ⟨#[]⟩, .int .i64 0] 106) = w2 at h2 z2 ⊢
  have hlr : (rSlice rInt).at1 w2 w2.heap.size (.slice a5 S.levels.length c5) S.levels :=
    slice_of_own (r := rInt) (enc := fun x => [Value.int .i64 x]) (base := 0) (e := 3) (by rw [flat_one]; exact z2.levels) (fun _ _ => rfl) (fun y hy => ⟨rfl, by have := hwf.sides y hy; unfold inI64; omega⟩) (Nat.le_refl _)
  refine CALL_of (CloneI_ct hlr (Nat.le_refl _) (by unfold maxBytes; omega)) ?_
  rintro vl w3 ⟨hown, hc3⟩
  obtain ⟨al, cl, rfl⟩ : ∃ a c, vl = .slice a S.levels.length c := by
    rcases hown.2 with ⟨e1, e2⟩ | ⟨g, cap, cur, hv, _⟩
    · exact ⟨none, 0, by rw [e1, e2]⟩
    · exact ⟨_, _, hv⟩
  have h3 := h2.seq (St.ofRow hown hc3)
  have h4 := h3.alloc #[.slice (some ⟨q2, 0, none⟩) 1 1, .slice none 0 0, .slice al S.levels.length cl, .int .i64 0, .slice none 0 0] 27
  simp -dsimp [go_sem]
  generalize w3.heap.size = x4 at h4 ⊢
  generalize w3.alloc (.cells #[.slice (some ⟨q2, 0, none⟩) 1 1, .slice none 0 0, .slice al S.levels.length cl, .int .i64 0, .slice none 0 0] 27) = w4 at h4 ⊢
  have z4 := hr _ h4.chg
  simp -dsimp [go_sem, z4.k0]
  refine texts_ok hr ok h4 fun At ct w5 h5 => ?_
  refine lefts_ok hr ok hwf h5 fun m An cn w6 h6 => ?_
  unfold gram_Builder_Grammar.b7
  have h6d := h6.old ((Chg.refl noB w6).drew)
  have z6 := hr _ h6d.chg
  have y6 := h6d.box 3 rfl
  have y6' := h6.box 3 rfl
  simp [boxAt] at y6 y6'
  simp -dsimp [go_sem, y6, y6']
  refine CALL_of (size2_ct z6.k2) ?_
  rintro _ _ ⟨rfl, rfl⟩
  simp -dsimp [go_sem, y6, y6']
  refine SPL_intro (fun p1 => ?_) (fun p1 => ?_) <;> simp at p1
  · have y0 := h6d.box 0 rfl
    simp [boxAt, zG] at y0
    simp -dsimp [go_sem, y0]
    refine no _ ?_ fun hn => by have := hn.2; omega
    exact (((((h6d.set 0 rfl 0 _).set 0 rfl 1 _).set 0 rfl 2 _).set 0 rfl 3 _).set 0 rfl 4 _).chg
  · refine prods_ok hr ok hwf (m := m) (An := An) (cn := cn) h6d fun Ap cp vs w7 h7 => ?_
    refine end_ok hr ok hwf q1 h7 fun vg w8 hG => hR _ _ ⟨hG.chg, fun _ => ⟨vg, rfl, hG⟩, fun ht => ?_⟩
    exact absurd ⟨q1, by omega⟩ (of_decide_eq_false ht)
end Go.Proofs.Ytkacbjhiobnbfaa

/-
  A builder as a piece of memory; its calls.
-/
namespace Go.Px.Scan
open Go.Px
theorem BSwf.zero : BSwf ⟨[], [], [], [], 0⟩ := ⟨by simp, by simp, by simp, by simp, by simp, by simp, by simp⟩
theorem BSwf.mono {S S' : BS} (h : BSwf S) (ht : S.terms.length ≤ S'.terms.length) (hn : S.nons.length ≤ S'.nons.length) (hl : S'.levels = S.levels) (hr : S'.rules = S.rules) (hs : S'.start = S.start) (hu : ∀ t ∈ S.terms, t ∈ S'.terms) : BSwf S' := by
  refine ⟨fun r h1 => ?_, fun r h1 x hx => ?_, fun r h1 => ?_, ?_, fun s hs' => ?_, fun r h1 => ?_, fun i hi => ?_⟩
  · rw [hr] at h1; have := h.left r h1; omega
  · rw [hr] at h1; have := h.right r h1 x hx; omega
  · rw [hr] at h1; rw [hl]; exact h.lev r h1
  · rw [hs]; have := h.start; omega
  · rw [hl] at hs'; exact h.sides s hs'
  · rw [hr] at h1; exact h.fit r h1
  · rw [hl] at hi; obtain ⟨t, h1, h2⟩ := h.used i hi; exact ⟨t, hu t h1, h2⟩
end Go.Px.Scan

namespace Go.Proofs.Ytkacbjhiobnbfaa
open Go.Px Go.Px.Scan Go.RowKit
set_option maxHeartbeats 1000000
set_option linter.unusedSimpArgs false
set_option linter.unusedVariables false
set_option maxRecDepth 100000
attribute [-go_sem] Builtin.append_

theorem termA_wf {S : BS} (h : BSwf S) (s : ByteArray) : BSwf (termA S s).2.2 := by
  unfold termA
  split
  · exact h
  · split
    · exact h
    · split
      · exact h
      · exact h.mono (by simp) (Nat.le_refl _) rfl rfl rfl (fun t ht => by simp [ht])
theorem nonA_wf {S : BS} (h : BSwf S) (s : ByteArray) : BSwf (nonA S s).2.2 := by
  unfold nonA
  split
  · exact h
  · split
    · exact h
    · split
      · exact h
      · exact h.mono (Nat.le_refl _) (by simp) rfl rfl rfl (fun t ht => ht)
theorem startA_wf {S : BS} (h : BSwf S) (x : Int) : BSwf (if isN S x then { S with start := x } else S) := by
  split
  · rename_i hx
    have hx' : x < 0 ∧ -(S.nons.length : Int) ≤ x := by simpa [isN] using hx
    exact ⟨h.left, h.right, h.lev, by show _ ∧ _; simp only; omega, h.sides, h.fit, h.used⟩
  · exact h
theorem ruleA_wf {S : BS} (ok : BSok S) (h : BSwf S) (left : Int) {right : List Int} (hn : right.length * 8 ≤ maxBytes) : BSwf (ruleA S left right).2.2 := by
  unfold ruleA
  split
  · exact h
  · rename_i hb
    split
    · exact h
    · have hN : isN S left = true := by
        cases e : isN S left with
        | true => rfl
        | false => exact absurd (Or.inl e) hb
      have hany : right.any (badH S) = false := by
        cases e : right.any (badH S) with
        | false => rfl
        | true => exact absurd (Or.inr e) hb
      have hl : left < 0 ∧ -(S.nons.length : Int) ≤ left := by simpa [isN] using hN
      have hlev := ruleL_in ok right
      have mem : ∀ r, r ∈ S.rules ++ [(left, right, ruleL S right)] → r ∈ S.rules ∨ r = (left, right, ruleL S right) := fun r hr => by simpa using hr
      refine ⟨fun r hr => ?_, fun r hr x hx => ?_, fun r hr => ?_, h.start, h.sides, fun r hr => ?_, h.used⟩
      · rcases mem r hr with hr | rfl
        · exact h.left r hr
        · exact ⟨hl.2, hl.1⟩
      · rcases mem r hr with hr | rfl
        · exact h.right r hr x hx
        · have h1 := any_false hany x hx
          unfold badH isT isN at h1
          simp only [Bool.and_eq_false_imp, Bool.not_eq_true', decide_eq_false_iff_not, Bool.not_eq_false', decide_eq_true_eq] at h1
          show -(S.nons.length : Int) ≤ x ∧ x ≤ S.terms.length ∧ x ≠ 0
          omega
      · rcases mem r hr with hr | rfl
        · exact h.lev r hr
        · exact hlev
      · rcases mem r hr with hr | rfl
        · exact h.fit r hr
        · exact hn

/-- A builder. -/
def bldC (b : Nat) (S : BS) : Ch where
  ok w F := BSwf S ∧ ∃ T V, Bld w T b V S ∧ ∀ i, T i ≠ 0 → F i
  keep h hc hX hF := by
    obtain ⟨hwf, T, V, hb, hT⟩ := h
    exact ⟨hwf, T, V, hb.keep hc fun i hi => hX i (hb.lt i hi) (hT i hi), fun i hi => hF i (hb.lt i hi) (hT i hi)⟩

theorem After.step {w w' : World} {T : Nat → Nat} {b : Nat} {V : BV} {S S' : BS} {F : Nat → Prop} (h : After w T b S' w') (hwf : BSwf S') (hT : ∀ i, T i ≠ 0 → F i) : Chg F w w' ∧ (bldC b S').ok w' (fun i => F i ∨ (w.heap.size ≤ i ∧ i < w'.heap.size)) := by
  obtain ⟨⟨T', V', hb, ho⟩, hc⟩ := h
  refine ⟨hc.mono fun i _ hi => hT i hi, hwf, T', V', hb, fun i hi => ?_⟩
  by_cases hlt : i < w.heap.size
  · rw [ho i hlt] at hi; exact Or.inl (hT i hi)
  · exact Or.inr ⟨by omega, hb.lt i hi⟩

section
variable {G : Nat → Prop} {W w : World} {L : List Ch} {X : Pan} {K : Value → World → Prop} {b : Nat} {S : BS}

theorem CALL_New (h : St G W w L) (hK : ∀ w' b, St G W w' (L ++ [bldC b S0]) → K (.pointer (some ⟨b, 0, none⟩)) w') : CALL Try.prog X gram_New.id #[] w K := by
  refine CALL_of (New_ct w) ?_
  rintro _ _ ⟨rfl, rfl⟩
  refine hK _ _ (h.seq ⟨(Chg.refl _ _).alloc _, fun i => if i = w.heap.size then 1 else 0, fun i hi => ?_, fun k d hk => ?_⟩)
  · by_cases e : i = w.heap.size
    · subst e; exact ⟨fun h => absurd h (Nat.lt_irrefl _), by simp⟩
    · dsimp only at hi; rw [if_neg e] at hi; exact absurd rfl hi
  · match k, hk with
    | 0, hk =>
      injection hk with hk; subst hk
      exact ⟨BSwf.zero, _, _, Bld.zero w rfl, fun i hi => by simp [T0_ne hi]⟩
    | k + 1, hk => simp at hk

theorem CALL_Term (h : St G W w L) (k : Nat) (hk : L[k]? = some (bldC b S)) {s : ByteArray} (hs : s.size ≤ maxLen)
    (hK : ∀ w', St G W w' (L.set k (bldC b (termA S s).2.2)) → K (.tuple #[.int .i64 (termA S s).1, .int .i64 (termA S s).2.1]) w') : CALL Try.prog X gram_Builder_Term.id #[.pointer (some ⟨b, 0, none⟩), .string s] w K := by
  obtain ⟨F, ⟨hwf, T, V, hb, hT⟩, _, hs'⟩ := h.opn hk
  refine CALL_of (Term_ct hb hs) ?_
  rintro _ w' ⟨rfl, hA⟩
  obtain ⟨h1, h2⟩ := hA.step (V := V) (S := S) (termA_wf hwf s) hT
  exact hK _ (hs' _ _ h1 h2)

theorem CALL_Non (h : St G W w L) (k : Nat) (hk : L[k]? = some (bldC b S)) {s : ByteArray} (hs : s.size ≤ maxLen)
    (hK : ∀ w', St G W w' (L.set k (bldC b (nonA S s).2.2)) → K (.tuple #[.int .i64 (nonA S s).1, .int .i64 (nonA S s).2.1]) w') : CALL Try.prog X gram_Builder_Non.id #[.pointer (some ⟨b, 0, none⟩), .string s] w K := by
  obtain ⟨F, ⟨hwf, T, V, hb, hT⟩, _, hs'⟩ := h.opn hk
  refine CALL_of (Non_ct hb hs) ?_
  rintro _ w' ⟨rfl, hA⟩
  obtain ⟨h1, h2⟩ := hA.step (V := V) (S := S) (nonA_wf hwf s) hT
  exact hK _ (hs' _ _ h1 h2)

theorem CALL_Rule (h : St G W w L) (k : Nat) (hk : L[k]? = some (bldC b S)) {left : Int} (hx : inI64 left) {u : Value} {right : List Int} (hu : (rSlice rInt).at1 w w.heap.size u right) (hn : right.length * 8 ≤ maxBytes)
    (hK : ∀ w', St G W w' (L.set k (bldC b (ruleA S left right).2.2)) → K (.tuple #[.int .i64 (ruleA S left right).1, .int .i64 (ruleA S left right).2.1]) w') : CALL Try.prog X gram_Builder_Rule.id #[.pointer (some ⟨b, 0, none⟩), .int .i64 left, u] w K := by
  obtain ⟨F, ⟨hwf, T, V, hb, hT⟩, _, hs'⟩ := h.opn hk
  refine CALL_of (Rule_ct hb hx hu (Nat.le_refl _) hn) ?_
  rintro _ w' ⟨rfl, hA⟩
  obtain ⟨h1, h2⟩ := hA.step (V := V) (S := S) (ruleA_wf hb.ok hwf left hn) hT
  exact hK _ (hs' _ _ h1 h2)

theorem CALL_Grammar (h : St G W w L) (k : Nat) (hk : L[k]? = some (bldC b S)) (hK : ∀ v w', BSok S → BSwf S → St G W w' L → GrAns S w v w' → K v w') : CALL Try.prog X gram_Builder_Grammar.id #[.pointer (some ⟨b, 0, none⟩)] w K := by
  obtain ⟨F, ⟨hwf, T, V, hb, hT⟩, _⟩ := h.get hk
  refine CALL_of (Grammar_ct hb hwf) ?_
  intro v w' hA
  exact hK v w' hb.ok hwf (h.old hA.1) hA
end
end Go.Proofs.Ytkacbjhiobnbfaa

/-
  The law's example.
-/
namespace Go.Proofs.Ytkacbjhiobnbfaa
open Go.Px Go.Px.Scan Go.RowKit
set_option maxHeartbeats 1000000
set_option linter.unusedSimpArgs false
set_option linter.unusedVariables false
set_option maxRecDepth 100000
attribute [-go_sem] Builtin.append_

def sPlus : ByteArray := ⟨#[43]⟩
def sE : ByteArray := ⟨#[101]⟩
theorem one_byte {c : UInt8} {i : Nat} (hi : i < (⟨#[c]⟩ : ByteArray).size) : i = 0 := by simp [ByteArray.size] at hi; omega
theorem tmB_plus : tmB sPlus = true := tmB_iff.2 ⟨by decide, by decide, fun i hi => by rw [one_byte hi]; decide⟩
theorem nmP_e : NameP sE := ⟨by decide, by decide, by decide, fun i hi => by rw [one_byte hi]; decide⟩
theorem nmB_e : nmB sE = true := nmB_iff.2 nmP_e

def Sa : BS := ⟨[(sPlus, 0)], [], [], [], 0⟩
def Sb : BS := ⟨[(sPlus, 0)], [sE], [], [], 0⟩
def Sc : BS := ⟨[(sPlus, 0)], [sE], [], [(-1, [-1, 1], 0)], 0⟩
theorem termA_a : termA S0 sPlus = (1, 0, Sa) := by
  unfold termA
  rw [if_neg (by simp [tmB_plus]), if_neg (by simp [S0, posH, posN]), if_neg (by simp [S0])]
  rfl
theorem nonA_b : nonA Sa sE = (-1, 0, Sb) := by
  unfold nonA
  rw [if_neg (by simp [nmB_e]), if_neg (by simp [Sa, posH, posN]), if_neg (by simp [Sa])]
  rfl
theorem ruleA_c : ruleA Sb (-1) [-1, 1] = (0, 0, Sc) := by
  unfold ruleA
  rw [if_neg (by decide), if_neg (by decide)]
  rfl
theorem gram_c : gramOf Sc = ⟨[(⟨#[]⟩, 0), (sPlus, 0)], [sE], [], 2, [(2, [2, 1], 0)]⟩ := by
  unfold gramOf
  rfl
theorem valid_c : validB (gramOf Sc) = true := by
  rw [gram_c, validB_iff]
  refine ⟨⟨rfl, by simp, by simp, by simp, by simp, fun t ht => ?_, fun i hi => by simp at hi, by simp, by simp, fun s hs => ?_⟩, ⟨by simp, by simp, fun p hp => ?_, rfl, by decide, by decide⟩, by decide⟩
  · simp at ht; subst ht; exact ⟨tmB_iff.1 tmB_plus, by decide, by decide⟩
  · simp at hs; subst hs; exact nmP_e
  · simp at hp; subst hp
    exact ⟨by decide, by decide, by decide, by decide, fun s hs => by simp at hs; rcases hs with rfl | rfl <;> decide⟩
theorem closed_c : closedB (gramOf Sc) = false := bool_no closedB_iff fun h => by
  have := h.first
  rw [gram_c] at this
  simp [sE] at this

theorem awake_ct (w : World) : Ct Try.prog law02_awake.id #[] w fun r w' => r = .bool true ∧ Chg noB w w' := by
  refine law02_awake.ct fun R hR => ?_
  unfold law02_awake.run
  simp -dsimp [go_sem]
  refine CALL_New (St.refl noB w) fun w1 b h1 => ?_
  refine CALL_Term h1 0 rfl (s := sPlus) (by unfold maxLen; decide) fun w2 h2 => ?_
  rw [termA_a] at h2 ⊢
  simp -dsimp [go_sem]
  refine CALL_Non h2 0 rfl (s := sE) (by unfold maxLen; decide) fun w3 h3 => ?_
  rw [nonA_b] at h3 ⊢
  have h4 := h3.lit 3 1 2 #[.int .i64 (-1), .int .i64 1] (by simp [maxLen]) rfl
  simp -dsimp [go_sem]
  generalize w3.heap.size = q at h4 ⊢
  generalize w3.alloc (.cells #[.int .i64 (-1), .int .i64 1] 3) = w4 at h4 ⊢
  have hu := ints_own (l := [-1, 1]) h4 1 rfl (by simp [inI64])
  refine CALL_Rule h4 0 rfl (left := -1) (by simp [inI64]) hu (by simp [maxBytes]) fun w5 h5 => ?_
  rw [ruleA_c] at h5 ⊢
  simp -dsimp [go_sem]
  refine CALL_Grammar h5 0 rfl fun v w6 ok hwf h6 hA => ?_
  obtain ⟨vg, rfl, hG⟩ := hA.2.1 (by decide +kernel)
  have hrd := hG.read
  dsimp only at hrd h6 hG ⊢
  obtain ⟨A1, c1, A2, c2, A3, c3, A4, c4, rfl, _⟩ := (rGram_open hrd).ex
  rw [show (gramOf Sc).terms.length = 2 from rfl] at *
  have h7 := h6.alloc #[.slice A1 2 c1, .slice A2 (gramOf Sc).nons.length c2, .slice A3 (gramOf Sc).levels.length c3, .int .i64 (gramOf Sc).start, .slice A4 (gramOf Sc).prods.length c4] 27
  have hb := ((Chg.refl noB w6).alloc (.cells #[.slice A1 2 c1, .slice A2 (gramOf Sc).nons.length c2, .slice A3 (gramOf Sc).levels.length c3, .int .i64 (gramOf Sc).start, .slice A4 (gramOf Sc).prods.length c4] 27)).below (Nat.le_refl _) fun _ _ => id
  have hB : w6.heap.size ≤ (w6.alloc (.cells #[.slice A1 2 c1, .slice A2 (gramOf Sc).nons.length c2, .slice A3 (gramOf Sc).levels.length c3, .int .i64 (gramOf Sc).start, .slice A4 (gramOf Sc).prods.length c4] 27)).heap.size := by simp
  have hrd7 := rGram_below hrd hb
  simp -dsimp [go_sem]
  generalize w6.alloc (.cells #[.slice A1 2 c1, .slice A2 (gramOf Sc).nons.length c2, .slice A3 (gramOf Sc).levels.length c3, .int .i64 (gramOf Sc).start, .slice A4 (gramOf Sc).prods.length c4] 27) = w7 at h7 hrd7 hB ⊢
  generalize w6.heap.size = q7 at *
  have y7 := h7.box 2 rfl
  simp [boxAt] at y7
  refine CALL_of (Valid_ct hrd7 hB) ?_
  rintro _ w8 ⟨rfl, hc8⟩
  have h8 := h7.old hc8
  have y8 := h8.box 2 rfl
  simp [boxAt] at y8
  rw [valid_c]
  simp -dsimp [go_sem, y8]
  refine CALL_of (Closed_ct (rGram_below hrd7 (hc8.below hB fun _ _ => id)) (by have := hc8.size; omega)) ?_
  rintro _ w9 ⟨rfl, hc9⟩
  rw [closed_c]
  simp -dsimp [go_sem]
  exact hR _ _ ⟨rfl, h8.chg.trans hc9⟩
end Go.Proofs.Ytkacbjhiobnbfaa

