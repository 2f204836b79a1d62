/-
  Texts of this claim: T02Ty, Gs2, Gm1, Gm8.
-/
import Derived.Test.YtkacbjhiobnbfaaGa
import Derived.Test.YtkacbjhiobnbfaaPa
import Derived.Test.YtkacbjhiobnbfaaSa
import Derived.Lib.OthersKept
import Derived.Laws.RangeAny
/-
  This seat's types.
-/
namespace Go.Proofs.Ytkacbjhiobnbfaa
open Go.Px Go.RowKit
theorem uInt : Try.prog.underlying 3 = some (.int .i64) := Try.underlying3
theorem uStr : Try.prog.underlying 9 = some .string := Try.underlying9
theorem uInts : Try.prog.underlying 24 = some (.slice 3) := Try.underlying24
theorem uStrs : Try.prog.underlying 23 = some (.slice 9) := Try.underlying23
theorem uTerms : Try.prog.underlying 22 = some (.slice 106) := Try.underlying22
theorem uProds : Try.prog.underlying 25 = some (.slice 47) := Try.underlying25
theorem iInt : (Try.prog.info? 3).map (fun i => (i.zero, i.size, i.bytes)) = some (some (.int .i64 0), 1, 8) := by kernel_rfl
theorem iStr : (Try.prog.info? 9).map (fun i => (i.zero, i.size, i.bytes)) = some (some (.string ⟨#[]⟩), 1, 16) := by kernel_rfl
theorem iTerm : (Try.prog.info? 106).map (fun i => (i.zero, i.size, i.bytes)) = some (some (.agg #[.string ⟨#[]⟩, .int .i64 0]), 2, 24) := by kernel_rfl
theorem iProd : (Try.prog.info? 47).map (fun i => (i.zero, i.size, i.bytes)) = some (some (.agg #[.int .i64 0, .slice none 0 0, .int .i64 0]), 3, 40) := by kernel_rfl
theorem mStr : MapTy Try.prog kStr 167 9 3 where
  tm := Try.underlying167
  te := Try.underlying3
  keyed := Maps.string_keyed Try.underlying9
  key a ha := WideMaps.keyOf_string_mk Try.underlying9 ha
  zero w := by simp [go_sem]
theorem mInt : MapTy Try.prog kInt 179 3 3 where
  tm := Try.underlying179
  te := Try.underlying3
  keyed := Maps.int_keyed Try.underlying3
  key a ha := Maps.keyOf_int_mk Try.underlying3 (by
    have hm : IntKind.i64.min = -9223372036854775808 := by decide
    obtain ⟨h1, h2⟩ := ha
    simp [Lit.wf, hm]
    omega)
  zero w := by simp [go_sem]
theorem mkStr (w : World) : (Instr.makeMap 167 none).run Try.prog w = .ok (.map (some w.heap.size)) (w.alloc (.map #[] 0)) := by
  simp [Instr.makeMap, run_underlying Try.underlying167, go_sem]
theorem mkInt (w : World) : (Instr.makeMap 179 none).run Try.prog w = .ok (.map (some w.heap.size)) (w.alloc (.map #[] 0)) := by
  simp [Instr.makeMap, run_underlying Try.underlying179, go_sem]
theorem bTerm2 (s : ByteArray) (x : Int) (w : World) : (Instr.build 106 #[(0, .string s), (1, .int .i64 x)]).run Try.prog w = .ok (.agg #[.string s, .int .i64 x]) w := by simp [go_sem]
theorem bTerm1 (s : ByteArray) (w : World) : (Instr.build 106 #[(0, .string s)]).run Try.prog w = .ok (.agg #[.string s, .int .i64 0]) w := by simp [go_sem]
theorem bProd02 (x y : Int) (w : World) : (Instr.build 47 #[(0, .int .i64 x), (2, .int .i64 y)]).run Try.prog w = .ok (.agg #[.int .i64 x, .slice none 0 0, .int .i64 y]) w := by simp [go_sem]
theorem bGram02 (a b : Option Addr) (n c m d : Nat) (w : World) : (Instr.build 27 #[(0, .slice a n c), (2, .slice b m d)]).run Try.prog w = .ok (.agg #[.slice a n c, .slice none 0 0, .slice b m d, .int .i64 0, .slice none 0 0]) w := by simp [go_sem]
theorem bInts2 (x y : Int) (w : World) : (Instr.buildSlice 24 2 #[(0, .int .i64 x), (1, .int .i64 y)]).run Try.prog w = .ok (.slice (some ⟨w.heap.size, 0, none⟩) 2 2) (w.alloc (.cells #[.int .i64 x, .int .i64 y] 3)) := by simp [go_sem]
theorem bBytes2 (x y : Int) (w : World) : (Instr.buildSlice 98 2 #[(0, .int .u8 x), (1, .int .u8 y)]).run Try.prog w = .ok (.slice (some ⟨w.heap.size, 0, none⟩) 2 2) (w.alloc (.cells #[.int .u8 x, .int .u8 y] 5)) := by simp [go_sem]
attribute [go_sem ↓] bBytes2 bInts2 bTerm2 bTerm1 bProd02 bGram02
end Go.Proofs.Ytkacbjhiobnbfaa

/-
  Grammars in memory.
-/
namespace Go.Px.Scan
open Go.Px Go.RowKit

def rTerm : Rep (ByteArray × Int) := rStr.prod rInt
def rPr : Rep (Int × List Int × Int) := rInt.prod ((rSlice rInt).prod rInt)
def rGram : Rep Gr := Rep.map ((rSlice rTerm).prod ((rSlice rStr).prod ((rSlice rInt).prod (rInt.prod (rSlice rPr))))) fun g => (g.terms, g.nons, g.levels, g.start, g.prods)

section
variable {w : World} {B : Nat} {A : Option Addr} {n c : Nat}

theorem terms_at {l : List (ByteArray × Int)} (h : (rSlice rTerm).at1 w B (.slice A n c) l) {i : Nat} (hi : i < l.length) :
    ∃ b o, A = some ⟨b, o, none⟩ ∧ b < B ∧ w.cell? ⟨b, o + i * 2, none⟩ = some (.string l[i].1) ∧ w.cell? ⟨b, o + i * 2 + 1, none⟩ = some (.int .i64 l[i].2) ∧ l[i].1.size ≤ maxLen ∧ inI64 l[i].2 := by
  obtain ⟨b, o, ys, hA, hb, ⟨c1, c2, rfl, ⟨rfl, h1⟩, rfl, h2⟩, hc⟩ := slice_at h hi
  exact ⟨b, o, hA, hb, hc 0 _ rfl, hc 1 _ rfl, h1, h2⟩

theorem prods_at {l : List (Int × List Int × Int)} (h : (rSlice rPr).at1 w B (.slice A n c) l) {i : Nat} (hi : i < l.length) :
    ∃ b o v, A = some ⟨b, o, none⟩ ∧ b < B ∧ w.cell? ⟨b, o + i * 3, none⟩ = some (.int .i64 l[i].1) ∧ w.cell? ⟨b, o + i * 3 + 1, none⟩ = some v ∧ w.cell? ⟨b, o + i * 3 + 2, none⟩ = some (.int .i64 l[i].2.2) ∧
      (rSlice rInt).at1 w B v l[i].2.1 ∧ inI64 l[i].1 ∧ inI64 l[i].2.2 := by
  obtain ⟨b, o, ys, hA, hb, ⟨c1, c2, rfl, ⟨rfl, h1⟩, c3, c4, rfl, h2, rfl, h3⟩, hc⟩ := slice_at h hi
  obtain ⟨A', k, rfl, h4⟩ := h2
  exact ⟨b, o, _, hA, hb, hc 0 _ rfl, hc 1 _ rfl, hc 2 _ rfl, ⟨A', k, rfl, h4⟩, h1, h3⟩

/-- A grammar's value. -/
structure GrV (w : World) (B : Nat) (v : Value) (g : Gr) : Prop where
  ex : ∃ A1 c1 A2 c2 A3 c3 A4 c4, v = .agg #[.slice A1 g.terms.length c1, .slice A2 g.nons.length c2, .slice A3 g.levels.length c3, .int .i64 g.start, .slice A4 g.prods.length c4] ∧
    (rSlice rTerm).at1 w B (.slice A1 g.terms.length c1) g.terms ∧ (rSlice rStr).at1 w B (.slice A2 g.nons.length c2) g.nons ∧ (rSlice rInt).at1 w B (.slice A3 g.levels.length c3) g.levels ∧ inI64 g.start ∧ (rSlice rPr).at1 w B (.slice A4 g.prods.length c4) g.prods ∧
    (g.terms.length ≤ c1 ∧ c1 ≤ maxLen) ∧ (g.nons.length ≤ c2 ∧ c2 ≤ maxLen) ∧ (g.levels.length ≤ c3 ∧ c3 ≤ maxLen) ∧ (g.prods.length ≤ c4 ∧ c4 ≤ maxLen)

theorem rGram_open {v : Value} {g : Gr} (h : rGram.atN w B v g) : GrV w B v g := by
  obtain ⟨cs, rfl, x1, y1, e1, h1, x2, y2, e2, h2, x3, y3, e3, h3, x4, y4, e4, ⟨h4, i4⟩, h5⟩ := h
  obtain ⟨A1, c1, f1, l1, m1, _⟩ := id h1
  obtain ⟨A2, c2, f2, l2, m2, _⟩ := id h2
  obtain ⟨A3, c3, f3, l3, m3, _⟩ := id h3
  obtain ⟨A4, c4, f4, l4, m4, _⟩ := id h5
  subst f1 f2 f3 h4 f4 e4 e3 e2 e1
  exact ⟨A1, c1, A2, c2, A3, c3, A4, c4, rfl, h1, h2, h3, i4, h5, ⟨l1, m1⟩, ⟨l2, m2⟩, ⟨l3, m3⟩, ⟨l4, m4⟩⟩

theorem rGram_mk {g : Gr} {A1 A2 A3 A4 : Option Addr} {n1 c1 n2 c2 n3 c3 n4 c4 : Nat} {s : Value} (h1 : (rSlice rTerm).at1 w B (.slice A1 n1 c1) g.terms) (h2 : (rSlice rStr).at1 w B (.slice A2 n2 c2) g.nons) (h3 : (rSlice rInt).at1 w B (.slice A3 n3 c3) g.levels)
    (hs : s = .int .i64 g.start) (h4 : inI64 g.start) (h5 : (rSlice rPr).at1 w B (.slice A4 n4 c4) g.prods) : rGram.atN w B (.agg #[.slice A1 n1 c1, .slice A2 n2 c2, .slice A3 n3 c3, s, .slice A4 n4 c4]) g := by
  subst hs
  exact ⟨_, rfl, [_], _, rfl, h1, [_], _, rfl, h2, [_], _, rfl, h3, [_], _, rfl, ⟨rfl, h4⟩, h5⟩

theorem rGram_below {w' : World} {v : Value} {g : Gr} (h : rGram.atN w B v g) (hb : Below B w w') : rGram.atN w' B v g := by
  obtain ⟨cs, rfl, hc⟩ := h
  exact ⟨cs, rfl, rGram.keep hc (Nat.le_refl _) hb.block⟩
theorem rGram_up {B' : Nat} {v : Value} {g : Gr} (h : rGram.atN w B v g) (hB : B ≤ B') : rGram.atN w B' v g := by
  obtain ⟨cs, rfl, hc⟩ := h
  exact ⟨cs, rfl, rGram.keep hc hB fun _ _ => rfl⟩

theorem flat_one {α β : Type} (f : α → β) (l : List α) : l.flatMap (fun x => [f x]) = l.map f := by
  induction l with
  | nil => rfl
  | cons x r ih => simp [ih]
/-- A part of a slice. -/
theorem slice_drop {α : Type} {r : Rep α} {l : List α} {b o k : Nat} (h : (rSlice r).at1 w B (.slice (some ⟨b, o, none⟩) l.length c) l) (hk : k ≤ l.length) : (rSlice r).at1 w B (.slice (some ⟨b, o + k * r.size, none⟩) (l.length - k) (c - k)) (l.drop k) := by
  obtain ⟨A', c', hv, h1, h2, h3, h4⟩ := h
  injection hv with hv _
  injection hv with hA _ hc
  subst hc
  refine ⟨_, c - k, by rw [List.length_drop], by rw [List.length_drop]; omega, by omega, trivial, fun hpos => ?_⟩
  rw [List.length_drop] at hpos
  obtain ⟨b', o', e, hb, hcell⟩ := h4 (by omega)
  rw [← hA] at e
  injection e with e
  injection e with e1 e2
  subst e1 e2
  refine ⟨b, o + k * r.size, rfl, hb, fun i x hi => ?_⟩
  rw [List.getElem?_drop] at hi
  obtain ⟨ys, hy, hu⟩ := hcell (k + i) x hi
  refine ⟨ys, hy, fun j u hj => ?_⟩
  have := hu j u hj
  rw [Nat.add_mul] at this
  rw [show o + k * r.size + (i * r.size + j) = o + (k * r.size + i * r.size + j) by omega]
  exact this
/-- .. as the model has it. -/
theorem slice_from {α : Type} {r : Rep α} {l : List α} {b o o' k : Nat} (h : (rSlice r).at1 w B (.slice (some ⟨b, o, none⟩) l.length c) l) (hk : k ≤ l.length) (ho : o' = o + k * r.size) :
    (rSlice r).at1 w B (.slice (if c = k then some ⟨b, o, none⟩ else some ⟨b, o', none⟩) (l.length - k) (c - k)) (l.drop k) := by
  subst ho
  by_cases e : c = k
  · obtain ⟨A', c', hv, h1, h2, h3, h4⟩ := id h
    injection hv with hv _
    injection hv with hA _ hc
    have hl : l.length = k := by omega
    rw [if_pos e]
    refine ⟨_, c - k, by rw [List.length_drop], by rw [List.length_drop]; omega, by omega, trivial, fun hpos => ?_⟩
    rw [List.length_drop] at hpos
    omega
  · rw [if_neg e]
    exact slice_drop h hk
/-- A nil slice's part. -/
theorem slice_nil {α : Type} {r : Rep α} {n c : Nat} {l : List α} (h : (rSlice r).at1 w B (.slice none n c) l) : l = [] := by
  obtain ⟨A', c', hv, h1, h2, h3, h4⟩ := h
  rcases Nat.eq_zero_or_pos l.length with h0 | h0
  · exact List.eq_nil_of_length_eq_zero h0
  · obtain ⟨b, o, e, _⟩ := h4 h0
    injection hv with hv; injection hv with hA; rw [e] at hA; cases hA
end
end Go.Px.Scan

/-
  Names and terminals' texts in package gram and in the document's answer.
-/
namespace Go.Px.Scan
open Classical in
noncomputable def nmB (s : ByteArray) : Bool := decide (NameP s)
open Classical in
noncomputable def tmB (s : ByteArray) : Bool := decide (TermP s)
theorem nmB_iff {s : ByteArray} : nmB s = true ↔ NameP s := @decide_eq_true_iff _ (_)
theorem tmB_iff {s : ByteArray} : tmB s = true ↔ TermP s := @decide_eq_true_iff _ (_)
theorem nmB_no {s : ByteArray} (h : ¬ NameP s) : nmB s = false := by rw [Bool.eq_false_iff]; exact fun h' => h (nmB_iff.1 h')
theorem tmB_no {s : ByteArray} (h : ¬ TermP s) : tmB s = false := by rw [Bool.eq_false_iff]; exact fun h' => h (tmB_iff.1 h')
end Go.Px.Scan

namespace Go.Proofs.Ytkacbjhiobnbfaa
open Go.Px Go.Px.Scan Go.RowKit
set_option maxHeartbeats 1000000
set_option linter.unusedSimpArgs false

theorem bytes_of {p : Nat → Prop} (h : ∀ c : Fin 256, p c.val) (c : Nat) (hc : c < 256) : p c := h ⟨c, hc⟩
theorem or32 (c : Nat) (hc : c < 256) : (decide (97 ≤ bits BinOp.or IntKind.u8 (c : Int) 32) && decide (bits BinOp.or IntKind.u8 (c : Int) 32 ≤ 122)) = letterN c :=
  bytes_of (p := fun c => (decide (97 ≤ bits BinOp.or IntKind.u8 (c : Int) 32) && decide (bits BinOp.or IntKind.u8 (c : Int) 32 ≤ 122)) = letterN c) (by decide +kernel) c hc

theorem isTerm1_ct (r : Int) (w : World) : Ct Try.prog gram_isTerm_1.id #[.int .i32 r] w fun v w' => v = .bool (decide (r < 32 ∨ 126 < r ∨ r = 39)) ∧ w = w' := by
  refine gram_isTerm_1.ct fun R hR => ?_
  unfold gram_isTerm_1.run gram_isTerm_1.b1
  simp [go_sem]
  refine SPL_intro (fun h => ?_) (fun h => ?_) <;> simp at h
  · exact hR _ _ ⟨by simp [h], rfl⟩
  · simp [go_sem]
    refine SPL_intro (fun h2 => ?_) (fun h2 => ?_) <;> simp at h2
    · exact hR _ _ ⟨by simp [h2], rfl⟩
    · simp [go_sem]
      refine hR _ _ ⟨?_, rfl⟩
      congr 1
      rw [Bool.eq_iff_iff]
      simp
      omega

theorem chg_iter {w : World} {k : Nat} (s : ByteArray) (pos : Nat) : Chg (· = k) w (w.iterAt k s pos) :=
  ⟨rfl, rfl, rfl, by rw [Lib.iterAt_size]; exact Nat.le_refl _, fun i _ hi => Lib.iterAt_other w k i s pos hi⟩

theorem IndexFunc_ct {s : ByteArray} (hs : s.size ≤ maxLen) (w : World) : Ct Try.prog strings_IndexFunc.id #[.string s, .func (.func gram_isTerm_1.id) #[] #[]] w fun v w' => (∃ i, v = .int .i64 i ∧ (0 ≤ i ↔ ¬ ∀ j, j < s.size → plainN (bt s j) = true)) ∧ Chg (fun _ => False) w w' := by
  refine strings_IndexFunc.ct fun R hR => ?_
  unfold strings_IndexFunc.run strings_IndexFunc.b1
  refine CALL_of (S := fun v w' => (∃ i, v = .int .i64 i ∧ (0 ≤ i ↔ ¬ ∀ j, j < s.size → plainN (bt s j) = true)) ∧ Chg (fun _ => False) w w') (strings_indexFunc.ct fun R hR => ?_) (fun v w' h => hR v w' h)
  unfold strings_indexFunc.run strings_indexFunc.b1 strings_indexFunc.b4
  simp [go_sem]
  have hc0 : Chg (fun _ => False) w (w.iter s 0) := (Chg.refl _ _).alloc _
  have hk0 : (w.iter s 0).heap[w.heap.size]? = some (.stringIter s 0) := World.iter_heap w s 0
  refine strings_indexFunc.l6_intro _ _ _ _ _ (fun W => ∃ j, j ≤ s.size ∧ W.heap[w.heap.size]? = some (.stringIter s j) ∧ (∀ i, i < j → plainN (bt s i) = true) ∧ Chg (fun _ => False) w W) (fun W => s.size - W.iterPos w.heap.size) ⟨0, Nat.zero_le _, hk0, fun i h => by omega, hc0⟩ ?_
  rintro W ⟨j, hj, hk, hall, hc⟩ C hC
  unfold strings_indexFunc.b7
  by_cases hlt : j < s.size
  · have hb : (s[j]'hlt).toNat = bt s j := by unfold bt; rw [dif_pos hlt]
    rw [RUN_eq, Lib.run_next_any_at W w.heap.size s j 0 hk hlt, RES_ok]
    simp [go_sem]
    refine CALLY_of (isTerm1_ct _ _) ?_
    rintro _ _ ⟨rfl, rfl⟩
    simp [go_sem]
    have hci : Chg (fun _ => False) w (W.iterAt w.heap.size s (j + (Utf8.decode s j).2)) := hc.trans' (chg_iter s _) (fun i hi h => by omega)
    refine SPL_intro (fun h => ?_) (fun h => ?_)
    · refine hR _ _ ⟨⟨j, rfl, ?_⟩, hci⟩
      refine ⟨fun _ hp => ?_, fun _ => by omega⟩
      have h1 := hp j hlt
      have h2 : bt s j < 128 := by simp [plainN] at h1; omega
      rw [decode_ascii s j hlt (by rw [hb]; exact h2), hb] at h
      simp [plainN] at h1 h
      omega
    · have hlow : bt s j < 128 := by
        rcases Nat.lt_or_ge (bt s j) 128 with h2 | h2
        · exact h2
        · have := (decode_high s j hlt (by rw [hb]; exact h2)).1
          simp at h
          omega
      have hd := decode_ascii s j hlt (by rw [hb]; exact hlow)
      rw [hd] at h hci ⊢
      rw [hb] at h
      simp at h
      refine hC _ ⟨j + 1, hlt, Lib.iterAt_heap _ _ _ _ _ hk, fun i hi => ?_, hci⟩ ?_
      · by_cases he : i = j
        · rw [he]; simp [plainN]; omega
        · exact hall i (by omega)
      · unfold World.iterPos
        rw [Lib.iterAt_heap _ _ _ _ _ hk, hk]
        simp; omega
  · rw [RUN_eq, Lib.run_next_end_at W w.heap.size s j 0 hk hlt, RES_ok]
    simp [go_sem]
    unfold strings_indexFunc.b3
    refine hR _ _ ⟨⟨-1, rfl, ?_⟩, hc⟩
    refine ⟨fun h => by omega, fun h => absurd (fun i hi => hall i (by omega)) h⟩

theorem str_empty {s : ByteArray} : (s.toList == []) = decide (s.size = 0) := by
  rw [ByteArray.toList_eq]
  by_cases h : s.size = 0
  · have : s.data.toList = [] := List.eq_nil_of_length_eq_zero (by simpa using h)
    simp [this, h]
  · have : s.data.toList ≠ [] := fun e => h (by have := congrArg List.length e; simpa using this)
    rw [beq_eq_false_iff_ne.2 this]; simp [h]

theorem size_of_nil {s : ByteArray} (h : s.toList = []) : s.size = 0 := by
  rw [ByteArray.toList_eq] at h
  have h2 : s.data.toList.length = s.size := by simp
  rw [h] at h2
  exact h2.symm

theorem isTerm_ct {s : ByteArray} (hs : s.size ≤ maxLen) (w : World) : Ct Try.prog gram_isTerm.id #[.string s] w fun v w' => v = .bool (tmB s) ∧ Chg (fun _ => False) w w' := by
  refine gram_isTerm.ct fun R hR => ?_
  have no : ¬ TermP s → R (.returned (.bool false)) w := fun h => hR _ _ ⟨by rw [tmB_no h], Chg.refl _ _⟩
  unfold gram_isTerm.run gram_isTerm.b1
  simp [go_sem]
  refine SPL_intro (fun h => ?_) (fun h => ?_)
  · have hpos : 0 < s.size := by
      rcases Nat.eq_zero_or_pos s.size with h0 | h0
      · have := str_empty (s := s)
        rw [h0] at this
        simp at this h
        exact absurd this h
      · exact h0
    simp [go_sem]
    refine SPL_intro (fun h2 => ?_) (fun h2 => ?_) <;> simp at h2
    · refine CALL_of (IndexFunc_ct hs w) ?_
      rintro _ w1 ⟨⟨i, rfl, hi⟩, hc⟩
      simp [go_sem]
      refine hR _ _ ⟨?_, hc⟩
      congr 1
      rw [Bool.eq_iff_iff, tmB_iff, decide_eq_true_iff]
      constructor
      · intro h3
        refine ⟨hpos, by omega, ?_⟩
        exact Classical.byContradiction fun h4 => by have := hi.2 h4; omega
      · intro h3
        rcases Int.lt_or_le i 0 with h4 | h4
        · exact h4
        · exact absurd h3.2.2 (hi.1 h4)
    · exact no fun h3 => by have := h3.2.1; omega
  · refine no fun h3 => ?_
    have h4 := h3.1
    have h5 : s.toList = [] := by simpa using h
    have h6 := size_of_nil h5
    omega

theorem isName_ct {s : ByteArray} (hs : s.size ≤ maxLen) (w : World) : Ct Try.prog gram_isName.id #[.string s] w fun v w' => v = .bool (nmB s) ∧ Chg (fun _ => False) w w' := by
  refine gram_isName.ct fun R hR => ?_
  have no : ¬ NameP s → R (.returned (.bool false)) w := fun h => hR _ _ ⟨by rw [nmB_no h], Chg.refl _ _⟩
  unfold gram_isName.run gram_isName.b1 gram_isName.b4
  simp [go_sem]
  refine gram_isName.l6_intro _ _ _ _ _ (fun x w1 => ∃ k : Nat, x = .int .i64 k ∧ k ≤ s.size ∧ (∀ i, i < k → innerN (bt s i) = true) ∧ (0 < k → (letterN (bt s 0) || decide (bt s 0 = 95)) = true) ∧ w = w1) (fun x _ => s.size - iv x) ⟨0, rfl, by omega, fun i h => by omega, fun h => by omega, rfl⟩ ?_
  rintro _ _ ⟨k, rfl, hk, hall, hfst, rfl⟩ C hC
  unfold gram_isName.b7
  simp [go_sem]
  refine SPL_intro (fun h => ?_) (fun h => ?_) <;> simp at h
  · have step : ∀ b, (b = false → innerN (bt s k) = true ∧ (k = 0 → (letterN (bt s 0) || decide (bt s 0 = 95)) = true)) → (b = true → ¬ NameP s) → gram_isName.b12 R C (.int .i64 k) (.bool b) w := by
      intro b h1 h2
      unfold gram_isName.b12
      cases b with
      | true => simp [go_sem]; exact no (h2 rfl)
      | false =>
        simp [go_sem]
        unfold gram_isName.b9
        simp [go_sem, wrap_succ h hs]
        refine hC _ _ ⟨k + 1, by simp, by omega, fun i hi => ?_, fun _ => ?_, rfl⟩ (by simp [iv]; omega)
        · by_cases he : i = k
          · rw [he]; exact (h1 rfl).1
          · exact hall i (by omega)
        · by_cases he : k = 0
          · exact (h1 rfl).2 he
          · exact hfst (by omega)
    have hb := bt_lt s k
    have hor := or32 (bt s k) hb
    have noK : innerN (bt s k) = false → ¬ NameP s := fun h1 h2 => by rw [h2.2.2.2 k h] at h1; cases h1
    have no0 : k = 0 → letterN (bt s k) = false → bt s k ≠ 95 → ¬ NameP s := fun h1 h2 h3 h4 => by
      have := h4.2.2.1
      rw [← h1, h2] at this
      simp at this
      exact h3 this
    have h95 : bt s k = 95 → ∀ b, b = false → gram_isName.b12 R C (.int .i64 k) (.bool b) w := fun h1 b hb => step b (fun _ => ⟨by rw [h1]; rfl, fun h0 => by rw [h0] at h1; rw [h1]; rfl⟩) (fun e => by rw [hb] at e; cases e)
    have hlet : letterN (bt s k) = true → gram_isName.b12 R C (.int .i64 k) (.bool false) w := fun h1 => step false (fun _ => ⟨by simp [innerN, h1], fun h0 => by rw [h0] at h1; rw [h1]; rfl⟩) (fun e => by cases e)
    unfold gram_isName.b11
    simp [go_sem, index_bt, h]
    refine SPL_intro (fun h1 => ?_) (fun h1 => ?_)
    · have h95' : bt s k ≠ 95 := by simp at h1; omega
      simp [go_sem]
      -- no letter
      have nolet : letterN (bt s k) = false → (k = 0 → gram_isName.b12 R C (.int .i64 k) (.bool true) w) ∧ (¬ k = 0 → bt s k < 48 → gram_isName.b12 R C (.int .i64 k) (.bool true) w) ∧ (¬ k = 0 → 48 ≤ bt s k → gram_isName.b12 R C (.int .i64 k) (.bool (decide ((57 : Int) < bt s k))) w) := fun hl => by
        refine ⟨fun h0 => step _ (fun e => by cases e) (fun _ => no0 h0 hl h95'), fun h0 h48 => step _ (fun e => by cases e) (fun _ => noK ?_), fun h0 h48 => step _ (fun e => ⟨?_, fun e0 => absurd e0 h0⟩) (fun e => noK ?_)⟩
        · simp [innerN, hl]; omega
        · simp at e; simp [innerN]; omega
        · simp at e; simp [innerN, hl]; omega
      refine SPL_intro (fun h2 => ?_) (fun h2 => ?_)
      · have hl : letterN (bt s k) = false := by rw [← hor]; simp at h2 ⊢; omega
        obtain ⟨n1, n2, n3⟩ := nolet hl
        simp [go_sem]
        refine SPL_intro (fun h3 => ?_) (fun h3 => ?_)
        · exact n1 (by simpa using h3)
        · have hk0 : ¬ k = 0 := by simpa using h3
          simp [go_sem]
          refine SPL_intro (fun h4 => ?_) (fun h4 => ?_)
          · exact n2 hk0 (by simp at h4; omega)
          · simp [go_sem]
            exact n3 hk0 (by simp at h4; omega)
      · simp [go_sem]
        refine SPL_intro (fun h3 => ?_) (fun h3 => ?_)
        · have hl : letterN (bt s k) = false := by rw [← hor]; simp at h2 h3 ⊢; omega
          obtain ⟨n1, n2, n3⟩ := nolet hl
          simp [go_sem]
          refine SPL_intro (fun h5 => ?_) (fun h5 => ?_)
          · exact n1 (by simpa using h5)
          · have hk0 : ¬ k = 0 := by simpa using h5
            simp [go_sem]
            refine SPL_intro (fun h4 => ?_) (fun h4 => ?_)
            · exact n2 hk0 (by simp at h4; omega)
            · simp [go_sem]
              exact n3 hk0 (by simp at h4; omega)
        · exact hlet (by rw [← hor]; simp at h2 h3 ⊢; omega)
    · exact h95 (by simp at h1; omega) false rfl
  · unfold gram_isName.b3
    have fin : ∀ b, b = nmB s → R (.returned (.bool b)) w := fun b hb => hR _ _ ⟨by rw [hb], Chg.refl _ _⟩
    simp [go_sem]
    refine SPL_intro (fun h1 => ?_) (fun h1 => ?_)
    · have hpos : 0 < s.size := by
        rcases Nat.eq_zero_or_pos s.size with h0 | h0
        · have := str_empty (s := s)
          rw [h0] at this
          simp at this h1
          exact absurd this h1
        · exact h0
      simp [go_sem]
      refine fin _ ?_
      rw [Bool.eq_iff_iff, nmB_iff]
      simp
      constructor
      · intro h2
        exact ⟨hpos, by omega, hfst (by omega), fun i hi => hall i (by omega)⟩
      · intro h2; have := h2.2.1; omega
    · refine no fun h3 => ?_
      have h4 := h3.1
      have h5 : s.toList = [] := by simpa using h1
      have h6 := size_of_nil h5
      omega

theorem ref02_IsTerm_ct {s : ByteArray} (hs : s.size ≤ maxLen) (w : World) : Ct Try.prog ref02_IsTerm.id #[.string s] w fun v w' => v = .bool (tmB s) ∧ w = w' := by
  refine ref02_IsTerm.ct fun R hR => ?_
  have no : ¬ TermP s → ∀ v, v = Value.bool false → R (.returned v) w := fun h v hv => hR _ _ ⟨by rw [hv, tmB_no h], rfl⟩
  unfold ref02_IsTerm.run ref02_IsTerm.b1 ref02_IsTerm.b4
  refine ref02_IsTerm.l6_intro _ _ _ _ (fun x w1 => ∃ k : Nat, x = .int .i64 k ∧ k ≤ s.size ∧ (∀ i, i < k → plainN (bt s i) = true) ∧ w = w1) (fun x _ => s.size - iv x) ⟨0, rfl, by omega, fun i h => by omega, rfl⟩ ?_
  rintro _ _ ⟨k, rfl, hk, hall, rfl⟩ C hC
  unfold ref02_IsTerm.b7
  simp [go_sem]
  refine SPL_intro (fun h => ?_) (fun h => ?_) <;> simp at h
  · have step : ∀ b, b = !(plainN (bt s k)) → ref02_IsTerm.b12 R C (.int .i64 k) (.bool b) w := by
      intro b hb
      unfold ref02_IsTerm.b12
      cases b with
      | true =>
        simp [go_sem]
        exact no (fun hn => by have := hn.2.2 k h; rw [this] at hb; cases hb) _ rfl
      | false =>
        simp [go_sem]
        unfold ref02_IsTerm.b9
        simp [go_sem, wrap_succ h hs]
        refine hC _ _ ⟨k + 1, by simp, by omega, fun i hik => ?_, rfl⟩ (by simp [iv]; omega)
        by_cases he : i = k
        · rw [he]; simpa using hb
        · exact hall i (by omega)
    unfold ref02_IsTerm.b11
    simp [go_sem, index_bt, h]
    refine SPL_intro (fun h1 => ?_) (fun h1 => ?_) <;> simp at h1
    · exact step _ (by simp [plainN]; omega)
    simp [go_sem, index_bt, h]
    refine SPL_intro (fun h2 => ?_) (fun h2 => ?_) <;> simp at h2
    · exact step _ (by simp [plainN]; omega)
    simp [go_sem, index_bt, h]
    exact step _ (by rw [Bool.eq_iff_iff]; simp [plainN]; omega)
  · unfold ref02_IsTerm.b3
    have fin : ∀ b, b = tmB s → R (.returned (.bool b)) w := fun b hb => hR _ _ ⟨by rw [hb], rfl⟩
    simp [go_sem]
    refine SPL_intro (fun h1 => ?_) (fun h1 => ?_) <;> simp at h1
    · simp [go_sem]
      refine fin _ ?_
      rw [Bool.eq_iff_iff, tmB_iff]
      simp
      constructor
      · intro h2; exact ⟨by omega, by omega, fun i hi => hall i (by omega)⟩
      · intro h2; have := h2.2.1; omega
    · exact no (fun hn => by have := hn.1; omega) _ rfl

theorem ref02_IsName_ct {s : ByteArray} (hs : s.size ≤ maxLen) (w : World) : Ct Try.prog ref02_IsName.id #[.string s] w fun v w' => v = .bool (nmB s) ∧ w = w' := by
  refine ref02_IsName.ct fun R hR => ?_
  have no : ¬ NameP s → R (.returned (.bool false)) w := fun h => hR _ _ ⟨by rw [nmB_no h], rfl⟩
  unfold ref02_IsName.run ref02_IsName.b1 ref02_IsName.b4
  refine ref02_IsName.l6_intro _ _ _ _ (fun x w1 => ∃ k : Nat, x = .int .i64 k ∧ k ≤ s.size ∧ (∀ i, i < k → innerN (bt s i) = true) ∧ (0 < k → (letterN (bt s 0) || decide (bt s 0 = 95)) = true) ∧ w = w1) (fun x _ => s.size - iv x) ⟨0, rfl, by omega, fun i h => by omega, fun h => by omega, rfl⟩ ?_
  rintro _ _ ⟨k, rfl, hk, hall, hfst, rfl⟩ C hC
  unfold ref02_IsName.b7
  simp [go_sem]
  refine SPL_intro (fun h => ?_) (fun h => ?_) <;> simp at h
  · have h12 : ∀ b, b = (letterN (bt s k) || decide (bt s k = 95)) → ref02_IsName.b12 R C (.string s) (.int .i64 k) (.bool b) w := by
      intro b hb
      have h13 : ∀ d, d = (decide (48 ≤ bt s k ∧ bt s k ≤ 57) && decide (0 < k)) → ref02_IsName.b13 R C (.int .i64 k) (.bool b) (.bool d) w := by
        intro d hd
        have bad : (b || d) = false → ref02_IsName.b14 R C (.int .i64 k) (.bool true) w := by
          intro hbd
          unfold ref02_IsName.b14
          simp [go_sem]
          refine no fun hn => ?_
          have h1 := hn.2.2.2 k h
          have h2 := hn.2.2.1
          rw [hb, hd] at hbd
          by_cases h0 : k = 0
          · rw [h0, h2] at hbd
            cases hbd
          · simp [innerN] at h1 hbd
            rcases h1 with h1 | h1 | h1
            · rw [h1] at hbd; simp at hbd
            · exact hbd.1.2 h1
            · have := hbd.2 h1.1 h1.2; omega
        have good : (b || d) = true → ref02_IsName.b14 R C (.int .i64 k) (.bool false) w := by
          intro hbd
          unfold ref02_IsName.b14
          simp [go_sem]
          unfold ref02_IsName.b9
          simp [go_sem, wrap_succ h hs]
          rw [hb, hd] at hbd
          refine hC _ _ ⟨k + 1, by simp, by omega, fun i hi => ?_, fun _ => ?_, rfl⟩ (by simp [iv]; omega)
          · by_cases he : i = k
            · rw [he]
              simp [innerN] at hbd ⊢
              rcases hbd with hbd | hbd
              · rcases hbd with hbd | hbd
                · exact Or.inl hbd
                · exact Or.inr (Or.inl hbd)
              · exact Or.inr (Or.inr hbd.1)
            · exact hall i (by omega)
          · by_cases he : k = 0
            · rw [he] at hbd
              simp at hbd ⊢
              exact hbd
            · exact hfst (by omega)
        unfold ref02_IsName.b13
        cases b with
        | true => simp [go_sem]; exact good rfl
        | false =>
          simp [go_sem]
          cases d with
          | true => exact good rfl
          | false => exact bad rfl
      unfold ref02_IsName.b12
      simp [go_sem, index_bt, h]
      refine SPL_intro (fun h1 => ?_) (fun h1 => ?_)
      · simp [go_sem, index_bt, h]
        refine SPL_intro (fun h2 => ?_) (fun h2 => ?_)
        · simp [go_sem]
          refine h13 _ ?_
          rw [Bool.eq_iff_iff]
          simp at h1 h2 ⊢
          omega
        · refine h13 false ?_
          simp at h1 h2 ⊢
          omega
      · refine h13 false ?_
        simp at h1 ⊢
        omega
    unfold ref02_IsName.b11
    simp [go_sem, index_bt, h]
    have e1 : ∀ c : Nat, letterN c = decide (65 ≤ c ∧ c ≤ 90 ∨ 97 ≤ c ∧ c ≤ 122) := fun c => rfl
    refine SPL_intro (fun h1 => ?_) (fun h1 => ?_)
    all_goals simp [go_sem, index_bt, h]
    · refine SPL_intro (fun h2 => ?_) (fun h2 => ?_)
      · exact h12 true (by simp at h1 h2; simp [e1]; omega)
      · simp [go_sem, index_bt, h]
        refine SPL_intro (fun h3 => ?_) (fun h3 => ?_)
        all_goals simp [go_sem, index_bt, h]
        · refine SPL_intro (fun h4 => ?_) (fun h4 => ?_)
          · exact h12 true (by simp at h3 h4; simp [e1]; omega)
          · simp [go_sem, index_bt, h]
            exact h12 _ (by rw [Bool.eq_iff_iff]; simp at h1 h2 h3 h4; simp [e1]; omega)
        · exact h12 _ (by rw [Bool.eq_iff_iff]; simp at h1 h2 h3; simp [e1]; omega)
    · refine SPL_intro (fun h3 => ?_) (fun h3 => ?_)
      all_goals simp [go_sem, index_bt, h]
      · refine SPL_intro (fun h4 => ?_) (fun h4 => ?_)
        · exact h12 true (by simp at h3 h4; simp [e1]; omega)
        · simp [go_sem, index_bt, h]
          exact h12 _ (by rw [Bool.eq_iff_iff]; simp at h1 h3 h4; simp [e1]; omega)
      · exact h12 _ (by rw [Bool.eq_iff_iff]; simp at h1 h3; simp [e1]; omega)
  · unfold ref02_IsName.b3
    have fin : ∀ b, b = nmB s → R (.returned (.bool b)) w := fun b hb => hR _ _ ⟨by rw [hb], rfl⟩
    simp [go_sem]
    refine SPL_intro (fun h1 => ?_) (fun h1 => ?_) <;> simp at h1
    · simp [go_sem]
      refine fin _ ?_
      rw [Bool.eq_iff_iff, nmB_iff]
      simp
      constructor
      · intro h2; exact ⟨by omega, by omega, hfst (by omega), fun i hi => hall i (by omega)⟩
      · intro h2; have := h2.2.1; omega
    · exact no fun hn => by have := hn.1; omega
end Go.Proofs.Ytkacbjhiobnbfaa

/-
  Lists of numbers: does one of them fit, a copy.
-/
namespace Go.Proofs.Ytkacbjhiobnbfaa
open Go.Px Go.Px.Scan Go.RowKit
set_option maxHeartbeats 1000000
set_option linter.unusedSimpArgs false
set_option linter.unusedVariables false
attribute [-go_sem] Builtin.append_

theorem IndexFuncI_ct {w : World} {B : Nat} {v : Value} {l : List Int} (h : (rSlice rInt).at1 w B v l) {g : FuncId} {first cap : Array Value} {p : Int → Bool}
    (hp : ∀ x ∈ l, inI64 x → Ct Try.prog g (first.toList ++ [Value.int .i64 x] ++ cap.toList).toArray w fun v w' => v = .bool (p x) ∧ w = w') :
    Ct Try.prog slices_IndexFunc_int_int.id #[v, .func (.func g) first cap] w fun r w' => (∃ i, r = .int .i64 i ∧ (0 ≤ i ↔ l.any p = true) ∧ i ≤ l.length) ∧ w = w' := by
  refine slices_IndexFunc_int_int.ct fun R hR => ?_
  obtain ⟨A, c, rfl, hl, hm, _⟩ := slice_form h
  unfold slices_IndexFunc_int_int.run slices_IndexFunc_int_int.b1 slices_IndexFunc_int_int.b4
  simp [go_sem]
  refine slices_IndexFunc_int_int.l6_intro _ _ _ _ _ _ (fun x w1 => ∃ k : Nat, x = .int .i64 k ∧ k ≤ l.length ∧ (l.take k).any p = false ∧ w = w1) (fun x _ => l.length - iv x) ⟨0, rfl, by omega, by simp, rfl⟩ ?_
  rintro _ _ ⟨k, rfl, hk, hall, rfl⟩ C hC
  unfold slices_IndexFunc_int_int.b7
  simp [go_sem]
  refine SPL_intro (fun h2 => ?_) (fun h2 => ?_) <;> simp at h2
  · obtain ⟨b1, o1, rfl, hb1, hc1, hr1⟩ := Go.Px.ints_at h h2
    have wk := wrap_succ h2 (Nat.le_trans hl hm)
    simp [go_sem, h2, hc1]
    refine CALLY_of (hp l[k] (List.getElem_mem h2) hr1) ?_
    rintro _ _ ⟨rfl, rfl⟩
    refine SPL_intro (fun h3 => ?_) (fun h3 => ?_)
    · refine hR _ _ ⟨⟨k, rfl, ?_, by omega⟩, rfl⟩
      refine ⟨fun _ => List.any_eq_true.2 ⟨_, List.getElem_mem h2, h3⟩, fun _ => by omega⟩
    · simp [go_sem, wk]
      refine hC _ _ ⟨k + 1, by simp, by omega, ?_, rfl⟩ (by simp [iv]; omega)
      rw [List.take_succ_eq_append_getElem h2, List.any_append, hall]
      simp [h3]
  · have hka : k = l.length := by omega
    rw [hka, List.take_length] at hall
    unfold slices_IndexFunc_int_int.b3
    exact hR _ _ ⟨⟨-1, rfl, by rw [hall]; simp, by omega⟩, rfl⟩

theorem ContainsFuncI_ct {w : World} {B : Nat} {v : Value} {l : List Int} (h : (rSlice rInt).at1 w B v l) {g : FuncId} {first cap : Array Value} {p : Int → Bool}
    (hp : ∀ x ∈ l, inI64 x → Ct Try.prog g (first.toList ++ [Value.int .i64 x] ++ cap.toList).toArray w fun v w' => v = .bool (p x) ∧ w = w') :
    Ct Try.prog slices_ContainsFunc_int_int.id #[v, .func (.func g) first cap] w fun r w' => r = .bool (l.any p) ∧ w = w' := by
  refine slices_ContainsFunc_int_int.ct fun R hR => ?_
  unfold slices_ContainsFunc_int_int.run slices_ContainsFunc_int_int.b1
  refine CALL_of (IndexFuncI_ct h hp) ?_
  rintro _ _ ⟨⟨i, rfl, hi, _⟩, rfl⟩
  simp [go_sem]
  refine hR _ _ ⟨?_, rfl⟩
  congr 1
  cases ha : l.any p
  · rw [ha] at hi; simpa using hi
  · rw [ha] at hi; simpa using hi

theorem ints_flat (l : List Int) : l.flatMap (fun x => [Value.int .i64 x]) = l.map (.int .i64 ·) := by
  induction l with
  | nil => rfl
  | cons x r ih => simp [ih]

theorem info_int' : (Try.prog.info? 3).map (fun i => (i.zero, i.size, i.bytes)) = some (some (.int .i64 0), 1, 8) := by kernel_rfl

theorem slice_nil_eq (t : TypeId) {e : TypeId} (ht : Try.prog.underlying t = some (.slice e)) (A : Option Addr) (n c : Nat) (w : World) : (binOp BinOp.eql t (.slice A n c) (.slice none 0 0)).run Try.prog w = .ok (.bool A.isNone) w := by
  simp only [binOp, Op.equal]
  rw [show Op.maxDepth = 9999 + 1 from rfl]
  unfold Op.equalIn
  cases A <;> simp [run_underlying ht, go_sem]

set_option maxRecDepth 100000 in
theorem CloneI_ct {w : World} {B : Nat} {v : Value} {l : List Int} (h : (rSlice rInt).at1 w B v l) (hB : B ≤ w.heap.size) (hn : l.length * 8 ≤ maxBytes) :
    Ct Try.prog slices_Clone_int_int.id #[v] w fun v' w' => w'.ownsRow w.heap.size 3 1 v' l.length (l.map (.int .i64 ·)) ∧ Chg (fun _ => False) w w' := by
  refine slices_Clone_int_int.ct fun R hR => ?_
  obtain ⟨A, c, rfl, hl, hm, _⟩ := slice_form h
  unfold slices_Clone_int_int.run slices_Clone_int_int.b1
  simp [go_sem]
  rw [slice_nil_eq 24 Try.underlying24]
  cases A with
  | none =>
    have hz : l.length = 0 := by
      rcases Nat.eq_zero_or_pos l.length with h0 | h0
      · exact h0
      · obtain ⟨b, o, e, _⟩ := Go.Px.ints_at h h0
        cases e
    have hl0 : l = [] := List.eq_nil_of_length_eq_zero hz
    subst hl0
    simp [go_sem]
    exact hR _ _ ⟨⟨by simp, Or.inl ⟨rfl, rfl⟩⟩, Chg.refl _ _⟩
  | some a =>
    simp [go_sem]
    have hc1 : Chg (fun _ => False) w (w.alloc (.cells #[] 3)) := (Chg.refl _ _).alloc _
    have hx : (w.alloc (.cells #[] 3)).heap[w.heap.size]? = some (.cells #[] 3 (0, 0)) := heap_alloc_new w _
    have hs1 : (w.alloc (.cells #[] 3)).heap.size = w.heap.size + 1 := by simp
    obtain ⟨i0, hi, hz0, hz1, hz2⟩ := info_parts info_int'
    generalize w.alloc (.cells #[] 3) = w1 at hc1 hx hs1 ⊢
    have hown : w1.ownsRow w.heap.size 3 1 (.slice (some ⟨w.heap.size, 0, none⟩) 0 0) 0 [] := ⟨by simp, Or.inr ⟨_, 0, #[], rfl, Nat.le_refl _, hx, by omega, by simp [maxLen], by simp, by simp⟩⟩
    have hnews : ∀ j u, (l.map (Value.int .i64 ·))[j]? = some u → w1.cell? (a.add j) = some u := by
      intro j u hu
      have hj : j < l.length := by have := (List.getElem?_eq_some_iff.1 hu).1; simpa using this
      obtain ⟨b1, o1, e, hb1, hc, hr1⟩ := Go.Px.ints_at h hj
      injection e with e
      subst e
      have : u = .int .i64 l[j] := by have := (List.getElem?_eq_some_iff.1 hu).2; simpa using this.symm
      subst this
      rw [Addr.add_lit]
      exact (hc1.cell (p := ⟨b1, o1 + j, none⟩) (by show b1 < _; omega) id).trans hc
    obtain ⟨v', w', hrun, hown', hgr, _, hb⟩ := run_append_own_at (P := Try.prog) w1 w.heap.size 24 24 3 i0 _ 1 8 Try.underlying24 hi hz0 hz1 hz2 rfl (by omega) _ 0 [] hown a l.length c (l.map (.int .i64 ·)) (by simp) hnews (by
        intro u hu
        obtain ⟨x, _, rfl⟩ := List.mem_map.1 hu
        rfl) (by omega) (by unfold maxBytes at hn; omega) (by omega)
    rw [hrun, RES_ok]
    simp only [Nat.zero_add, List.nil_append] at hown'
    have hg : Chg (fun i => i = w.heap.size) w1 w' := grown_chg hgr fun k hk => by
      simp [Value.ownBlock] at hk
      exact hk.symm
    exact hR _ _ ⟨hown', hc1.trans' hg fun i hi e => by omega⟩
end Go.Proofs.Ytkacbjhiobnbfaa

