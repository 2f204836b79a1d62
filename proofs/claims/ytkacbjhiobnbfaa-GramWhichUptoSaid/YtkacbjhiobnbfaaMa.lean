/-
  Texts of this claim: T02Ty, Gs2.
-/
import Derived.Test.YtkacbjhiobnbfaaGa
import Derived.Test.YtkacbjhiobnbfaaPa
import Derived.Test.YtkacbjhiobnbfaaSa
/-
  This seat's types.
-/
namespace Go.Proofs.Ytkacbjhiobnbfaa
open Go.Px Go.RowKit
theorem uInt : Try.prog.underlying 3 = some (.int .i64) := Try.underlying3
theorem uStr : Try.prog.underlying 9 = some .string := Try.underlying9
theorem uInts : Try.prog.underlying 24 = some (.slice 3) := Try.underlying24
theorem uStrs : Try.prog.underlying 23 = some (.slice 9) := Try.underlying23
theorem uTerms : Try.prog.underlying 22 = some (.slice 106) := Try.underlying22
theorem uProds : Try.prog.underlying 25 = some (.slice 47) := Try.underlying25
theorem iInt : (Try.prog.info? 3).map (fun i => (i.zero, i.size, i.bytes)) = some (some (.int .i64 0), 1, 8) := by kernel_rfl
theorem iStr : (Try.prog.info? 9).map (fun i => (i.zero, i.size, i.bytes)) = some (some (.string ⟨#[]⟩), 1, 16) := by kernel_rfl
theorem iTerm : (Try.prog.info? 106).map (fun i => (i.zero, i.size, i.bytes)) = some (some (.agg #[.string ⟨#[]⟩, .int .i64 0]), 2, 24) := by kernel_rfl
theorem iProd : (Try.prog.info? 47).map (fun i => (i.zero, i.size, i.bytes)) = some (some (.agg #[.int .i64 0, .slice none 0 0, .int .i64 0]), 3, 40) := by kernel_rfl
theorem mStr : MapTy Try.prog kStr 167 9 3 where
  tm := Try.underlying167
  te := Try.underlying3
  keyed := Maps.string_keyed Try.underlying9
  key a ha := WideMaps.keyOf_string_mk Try.underlying9 ha
  zero w := by simp [go_sem]
theorem mInt : MapTy Try.prog kInt 179 3 3 where
  tm := Try.underlying179
  te := Try.underlying3
  keyed := Maps.int_keyed Try.underlying3
  key a ha := Maps.keyOf_int_mk Try.underlying3 (by
    have hm : IntKind.i64.min = -9223372036854775808 := by decide
    obtain ⟨h1, h2⟩ := ha
    simp [Lit.wf, hm]
    omega)
  zero w := by simp [go_sem]
theorem mkStr (w : World) : (Instr.makeMap 167 none).run Try.prog w = .ok (.map (some w.heap.size)) (w.alloc (.map #[] 0)) := by
  simp [Instr.makeMap, run_underlying Try.underlying167, go_sem]
theorem mkInt (w : World) : (Instr.makeMap 179 none).run Try.prog w = .ok (.map (some w.heap.size)) (w.alloc (.map #[] 0)) := by
  simp [Instr.makeMap, run_underlying Try.underlying179, go_sem]
theorem bTerm2 (s : ByteArray) (x : Int) (w : World) : (Instr.build 106 #[(0, .string s), (1, .int .i64 x)]).run Try.prog w = .ok (.agg #[.string s, .int .i64 x]) w := by simp [go_sem]
theorem bTerm1 (s : ByteArray) (w : World) : (Instr.build 106 #[(0, .string s)]).run Try.prog w = .ok (.agg #[.string s, .int .i64 0]) w := by simp [go_sem]
theorem bProd02 (x y : Int) (w : World) : (Instr.build 47 #[(0, .int .i64 x), (2, .int .i64 y)]).run Try.prog w = .ok (.agg #[.int .i64 x, .slice none 0 0, .int .i64 y]) w := by simp [go_sem]
theorem bGram02 (a b : Option Addr) (n c m d : Nat) (w : World) : (Instr.build 27 #[(0, .slice a n c), (2, .slice b m d)]).run Try.prog w = .ok (.agg #[.slice a n c, .slice none 0 0, .slice b m d, .int .i64 0, .slice none 0 0]) w := by simp [go_sem]
theorem bInts2 (x y : Int) (w : World) : (Instr.buildSlice 24 2 #[(0, .int .i64 x), (1, .int .i64 y)]).run Try.prog w = .ok (.slice (some ⟨w.heap.size, 0, none⟩) 2 2) (w.alloc (.cells #[.int .i64 x, .int .i64 y] 3)) := by simp [go_sem]
theorem bBytes2 (x y : Int) (w : World) : (Instr.buildSlice 98 2 #[(0, .int .u8 x), (1, .int .u8 y)]).run Try.prog w = .ok (.slice (some ⟨w.heap.size, 0, none⟩) 2 2) (w.alloc (.cells #[.int .u8 x, .int .u8 y] 5)) := by simp [go_sem]
attribute [go_sem ↓] bBytes2 bInts2 bTerm2 bTerm1 bProd02 bGram02
end Go.Proofs.Ytkacbjhiobnbfaa

/-
  Grammars in memory.
-/
namespace Go.Px.Scan
open Go.Px Go.RowKit

def rTerm : Rep (ByteArray × Int) := rStr.prod rInt
def rPr : Rep (Int × List Int × Int) := rInt.prod ((rSlice rInt).prod rInt)
def rGram : Rep Gr := Rep.map ((rSlice rTerm).prod ((rSlice rStr).prod ((rSlice rInt).prod (rInt.prod (rSlice rPr))))) fun g => (g.terms, g.nons, g.levels, g.start, g.prods)

section
variable {w : World} {B : Nat} {A : Option Addr} {n c : Nat}

theorem terms_at {l : List (ByteArray × Int)} (h : (rSlice rTerm).at1 w B (.slice A n c) l) {i : Nat} (hi : i < l.length) :
    ∃ b o, A = some ⟨b, o, none⟩ ∧ b < B ∧ w.cell? ⟨b, o + i * 2, none⟩ = some (.string l[i].1) ∧ w.cell? ⟨b, o + i * 2 + 1, none⟩ = some (.int .i64 l[i].2) ∧ l[i].1.size ≤ maxLen ∧ inI64 l[i].2 := by
  obtain ⟨b, o, ys, hA, hb, ⟨c1, c2, rfl, ⟨rfl, h1⟩, rfl, h2⟩, hc⟩ := slice_at h hi
  exact ⟨b, o, hA, hb, hc 0 _ rfl, hc 1 _ rfl, h1, h2⟩

theorem prods_at {l : List (Int × List Int × Int)} (h : (rSlice rPr).at1 w B (.slice A n c) l) {i : Nat} (hi : i < l.length) :
    ∃ b o v, A = some ⟨b, o, none⟩ ∧ b < B ∧ w.cell? ⟨b, o + i * 3, none⟩ = some (.int .i64 l[i].1) ∧ w.cell? ⟨b, o + i * 3 + 1, none⟩ = some v ∧ w.cell? ⟨b, o + i * 3 + 2, none⟩ = some (.int .i64 l[i].2.2) ∧
      (rSlice rInt).at1 w B v l[i].2.1 ∧ inI64 l[i].1 ∧ inI64 l[i].2.2 := by
  obtain ⟨b, o, ys, hA, hb, ⟨c1, c2, rfl, ⟨rfl, h1⟩, c3, c4, rfl, h2, rfl, h3⟩, hc⟩ := slice_at h hi
  obtain ⟨A', k, rfl, h4⟩ := h2
  exact ⟨b, o, _, hA, hb, hc 0 _ rfl, hc 1 _ rfl, hc 2 _ rfl, ⟨A', k, rfl, h4⟩, h1, h3⟩

/-- A grammar's value. -/
structure GrV (w : World) (B : Nat) (v : Value) (g : Gr) : Prop where
  ex : ∃ A1 c1 A2 c2 A3 c3 A4 c4, v = .agg #[.slice A1 g.terms.length c1, .slice A2 g.nons.length c2, .slice A3 g.levels.length c3, .int .i64 g.start, .slice A4 g.prods.length c4] ∧
    (rSlice rTerm).at1 w B (.slice A1 g.terms.length c1) g.terms ∧ (rSlice rStr).at1 w B (.slice A2 g.nons.length c2) g.nons ∧ (rSlice rInt).at1 w B (.slice A3 g.levels.length c3) g.levels ∧ inI64 g.start ∧ (rSlice rPr).at1 w B (.slice A4 g.prods.length c4) g.prods ∧
    (g.terms.length ≤ c1 ∧ c1 ≤ maxLen) ∧ (g.nons.length ≤ c2 ∧ c2 ≤ maxLen) ∧ (g.levels.length ≤ c3 ∧ c3 ≤ maxLen) ∧ (g.prods.length ≤ c4 ∧ c4 ≤ maxLen)

theorem rGram_open {v : Value} {g : Gr} (h : rGram.atN w B v g) : GrV w B v g := by
  obtain ⟨cs, rfl, x1, y1, e1, h1, x2, y2, e2, h2, x3, y3, e3, h3, x4, y4, e4, ⟨h4, i4⟩, h5⟩ := h
  obtain ⟨A1, c1, f1, l1, m1, _⟩ := id h1
  obtain ⟨A2, c2, f2, l2, m2, _⟩ := id h2
  obtain ⟨A3, c3, f3, l3, m3, _⟩ := id h3
  obtain ⟨A4, c4, f4, l4, m4, _⟩ := id h5
  subst f1 f2 f3 h4 f4 e4 e3 e2 e1
  exact ⟨A1, c1, A2, c2, A3, c3, A4, c4, rfl, h1, h2, h3, i4, h5, ⟨l1, m1⟩, ⟨l2, m2⟩, ⟨l3, m3⟩, ⟨l4, m4⟩⟩

theorem rGram_mk {g : Gr} {A1 A2 A3 A4 : Option Addr} {n1 c1 n2 c2 n3 c3 n4 c4 : Nat} {s : Value} (h1 : (rSlice rTerm).at1 w B (.slice A1 n1 c1) g.terms) (h2 : (rSlice rStr).at1 w B (.slice A2 n2 c2) g.nons) (h3 : (rSlice rInt).at1 w B (.slice A3 n3 c3) g.levels)
    (hs : s = .int .i64 g.start) (h4 : inI64 g.start) (h5 : (rSlice rPr).at1 w B (.slice A4 n4 c4) g.prods) : rGram.atN w B (.agg #[.slice A1 n1 c1, .slice A2 n2 c2, .slice A3 n3 c3, s, .slice A4 n4 c4]) g := by
  subst hs
  exact ⟨_, rfl, [_], _, rfl, h1, [_], _, rfl, h2, [_], _, rfl, h3, [_], _, rfl, ⟨rfl, h4⟩, h5⟩

theorem rGram_below {w' : World} {v : Value} {g : Gr} (h : rGram.atN w B v g) (hb : Below B w w') : rGram.atN w' B v g := by
  obtain ⟨cs, rfl, hc⟩ := h
  exact ⟨cs, rfl, rGram.keep hc (Nat.le_refl _) hb.block⟩
theorem rGram_up {B' : Nat} {v : Value} {g : Gr} (h : rGram.atN w B v g) (hB : B ≤ B') : rGram.atN w B' v g := by
  obtain ⟨cs, rfl, hc⟩ := h
  exact ⟨cs, rfl, rGram.keep hc hB fun _ _ => rfl⟩

theorem flat_one {α β : Type} (f : α → β) (l : List α) : l.flatMap (fun x => [f x]) = l.map f := by
  induction l with
  | nil => rfl
  | cons x r ih => simp [ih]
/-- A part of a slice. -/
theorem slice_drop {α : Type} {r : Rep α} {l : List α} {b o k : Nat} (h : (rSlice r).at1 w B (.slice (some ⟨b, o, none⟩) l.length c) l) (hk : k ≤ l.length) : (rSlice r).at1 w B (.slice (some ⟨b, o + k * r.size, none⟩) (l.length - k) (c - k)) (l.drop k) := by
  obtain ⟨A', c', hv, h1, h2, h3, h4⟩ := h
  injection hv with hv _
  injection hv with hA _ hc
  subst hc
  refine ⟨_, c - k, by rw [List.length_drop], by rw [List.length_drop]; omega, by omega, trivial, fun hpos => ?_⟩
  rw [List.length_drop] at hpos
  obtain ⟨b', o', e, hb, hcell⟩ := h4 (by omega)
  rw [← hA] at e
  injection e with e
  injection e with e1 e2
  subst e1 e2
  refine ⟨b, o + k * r.size, rfl, hb, fun i x hi => ?_⟩
  rw [List.getElem?_drop] at hi
  obtain ⟨ys, hy, hu⟩ := hcell (k + i) x hi
  refine ⟨ys, hy, fun j u hj => ?_⟩
  have := hu j u hj
  rw [Nat.add_mul] at this
  rw [show o + k * r.size + (i * r.size + j) = o + (k * r.size + i * r.size + j) by omega]
  exact this
/-- .. as the model has it. -/
theorem slice_from {α : Type} {r : Rep α} {l : List α} {b o o' k : Nat} (h : (rSlice r).at1 w B (.slice (some ⟨b, o, none⟩) l.length c) l) (hk : k ≤ l.length) (ho : o' = o + k * r.size) :
    (rSlice r).at1 w B (.slice (if c = k then some ⟨b, o, none⟩ else some ⟨b, o', none⟩) (l.length - k) (c - k)) (l.drop k) := by
  subst ho
  by_cases e : c = k
  · obtain ⟨A', c', hv, h1, h2, h3, h4⟩ := id h
    injection hv with hv _
    injection hv with hA _ hc
    have hl : l.length = k := by omega
    rw [if_pos e]
    refine ⟨_, c - k, by rw [List.length_drop], by rw [List.length_drop]; omega, by omega, trivial, fun hpos => ?_⟩
    rw [List.length_drop] at hpos
    omega
  · rw [if_neg e]
    exact slice_drop h hk
/-- A nil slice's part. -/
theorem slice_nil {α : Type} {r : Rep α} {n c : Nat} {l : List α} (h : (rSlice r).at1 w B (.slice none n c) l) : l = [] := by
  obtain ⟨A', c', hv, h1, h2, h3, h4⟩ := h
  rcases Nat.eq_zero_or_pos l.length with h0 | h0
  · exact List.eq_nil_of_length_eq_zero h0
  · obtain ⟨b, o, e, _⟩ := h4 h0
    injection hv with hv; injection hv with hA; rw [e] at hA; cases hA
end
end Go.Px.Scan

