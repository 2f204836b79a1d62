/-
  Texts of this claim: Aw1, Aw2, Ld1.
-/
import Derived.Test.YtkacbjhiobnbfaaTb
import Derived.Test.YtkacbjhiobnbfaaTc
import Derived.Test.YtkacbjhiobnbfaaTd
import Derived.Test.YtkacbjhiobnbfaaGi
import Derived.Test.YtkacbjhiobnbfaaMj
/-
  The chapter's example of trees.
-/
namespace Go.Px.Scan
open Go.Px Go.RowKit
def g20 : Gr := ⟨[(⟨#[]⟩, 0), (⟨#[43]⟩, 0), (⟨#[110]⟩, 0)], [⟨#[]⟩, ⟨#[101]⟩], [], 4, [(3, [4], 0), (4, [4, 1, 2], 0), (4, [2], 0)]⟩
def l20 : List Nd := [(2, -1, 0, []), (4, 2, 0, [0]), (1, -1, 1, []), (2, -1, 2, []), (4, 1, 0, [1, 2, 3])]
theorem g20_closed : ClosedP g20 := by
  refine ⟨rfl, ⟨rfl, by decide, by decide, by decide, by decide, ?_, ?_, by decide, by decide, ?_⟩, ⟨by decide, by decide, ?_, by decide, by decide, by decide⟩, rfl⟩
  · intro t ht
    simp [g20] at ht
    rcases ht with rfl | rfl <;> exact ⟨⟨by decide, by decide, fun i hi => by
      have hi' : i < 1 := hi
      have : i = 0 := by omega
      subst this
      decide⟩, by decide, by decide⟩
  · intro i hi
    simp [g20] at hi
  · intro s hs
    simp [g20] at hs
    subst hs
    refine ⟨by decide, by decide, by decide, fun i hi => ?_⟩
    have hi' : i < 1 := hi
    have : i = 0 := by omega
    subst this
    decide
  · intro p hp
    simp [g20] at hp
    rcases hp with rfl | rfl
    · exact ⟨by decide, by decide, by decide, by decide, fun s hs => by simp at hs; rcases hs with rfl | rfl | rfl <;> decide⟩
    · exact ⟨by decide, by decide, by decide, by decide, fun s hs => by simp at hs; subst hs; decide⟩
theorem g20_b : closedB g20 = true := closedB_iff.2 g20_closed
theorem l20_fr : lookP l20 false (frV l20) [] 4 = some [2, 1, 2] := by decide +kernel
theorem l20_rm : lookP l20 true (rmV l20) [] 4 = some [1, 2] := by decide +kernel
end Go.Px.Scan
namespace Go.Px
/-- Blocks, one after the other. -/
def alls (w : World) : List (Array Value × TypeId) → World
  | [] => w
  | x :: r => alls (w.alloc (.cells x.1 x.2)) r
theorem alls_chg (w : World) : ∀ (l : List (Array Value × TypeId)) (w1 : World), Chg noB w w1 → Chg noB w (alls w1 l)
  | [], w1, h => h
  | x :: r, w1, h => alls_chg w r _ (h.alloc _)
theorem alls_at : ∀ (l : List (Array Value × TypeId)) (w : World) (i : Nat) (c : Array Value) (t : TypeId), l[i]? = some (c, t) → (alls w l).heap[w.heap.size + i]? = some (.cells c t (0, 0))
  | [], w, i, c, t, h => by simp at h
  | x :: r, w, 0, c, t, h => by
    simp at h; subst h
    have := alls_chg (w.alloc (.cells c t)) r _ (Chg.refl noB _)
    exact (this.block w.heap.size (by simp) id).trans (World.alloc_heap_new w _)
  | x :: r, w, i + 1, c, t, h => by
    have h1 := alls_at r (w.alloc (.cells x.1 x.2)) i c t (by simpa using h)
    have h2 : (w.alloc (.cells x.1 x.2)).heap.size = w.heap.size + 1 := by simp
    rw [h2, show w.heap.size + 1 + i = w.heap.size + (i + 1) by omega] at h1
    exact h1
end Go.Px
namespace Go.Proofs.Ytkacbjhiobnbfaa
open Go.Px Go.Px.Scan Go.RowKit
set_option maxHeartbeats 1000000
set_option linter.unusedSimpArgs false
set_option linter.unusedVariables false
set_option maxRecDepth 100000
theorem l20_d1 : deriveB g20 l20 4 [2, 1, 2] = true := by
  unfold deriveB; rw [g20_b]; decide +kernel
theorem l20_d2 : deriveB g20 l20 4 [2, 1] = false := by
  unfold deriveB; rw [g20_b]; decide +kernel
def t20 : Txt := [101, 40, 101, 40, 39, 110, 39, 41, 32, 39, 43, 39, 32, 39, 110, 39, 41]
theorem l20_tx : textB g20 l20 4 = some t20 := by
  unfold textB
  rw [if_pos g20_b]; decide +kernel

theorem bTerm0 (w : World) : (Instr.build 106 #[]).run Try.prog w = .ok (.agg #[.string ⟨#[]⟩, .int .i64 0]) w := by simp [go_sem]
theorem bTerms3 (a b c : ByteArray) (x y z : Int) (w : World) : (Instr.buildSlice 22 3 #[(0, .agg #[.string a, .int .i64 x]), (1, .agg #[.string b, .int .i64 y]), (2, .agg #[.string c, .int .i64 z])]).run Try.prog w = .ok (.slice (some ⟨w.heap.size, 0, none⟩) 3 3) (w.alloc (.cells #[.string a, .int .i64 x, .string b, .int .i64 y, .string c, .int .i64 z] 106)) := by
  simp [go_sem, Value.cells]
theorem bNons2 (a b : ByteArray) (w : World) : (Instr.buildSlice 23 2 #[(0, .string a), (1, .string b)]).run Try.prog w = .ok (.slice (some ⟨w.heap.size, 0, none⟩) 2 2) (w.alloc (.cells #[.string a, .string b] 9)) := by
  simp [go_sem, Value.cells]
theorem bInts3 (a b c : Int) (w : World) : (Instr.buildSlice 24 3 #[(0, .int .i64 a), (1, .int .i64 b), (2, .int .i64 c)]).run Try.prog w = .ok (.slice (some ⟨w.heap.size, 0, none⟩) 3 3) (w.alloc (.cells #[.int .i64 a, .int .i64 b, .int .i64 c] 3)) := by
  simp [go_sem, Value.cells]
theorem bInts1 (a : Int) (w : World) : (Instr.buildSlice 24 1 #[(0, .int .i64 a)]).run Try.prog w = .ok (.slice (some ⟨w.heap.size, 0, none⟩) 1 1) (w.alloc (.cells #[.int .i64 a] 3)) := by
  simp [go_sem, Value.cells]
theorem bProd1 (x : Int) (A : Option Addr) (n c : Nat) (w : World) : (Instr.build 47 #[(0, .int .i64 x), (1, .slice A n c)]).run Try.prog w = .ok (.agg #[.int .i64 x, .slice A n c, .int .i64 0]) w := by simp [go_sem]
theorem bProds3 (x y z : Int) (A1 A2 A3 : Option Addr) (n1 c1 n2 c2 n3 c3 : Nat) (w : World) : (Instr.buildSlice 25 3 #[(0, .agg #[.int .i64 x, .slice A1 n1 c1, .int .i64 0]), (1, .agg #[.int .i64 y, .slice A2 n2 c2, .int .i64 0]), (2, .agg #[.int .i64 z, .slice A3 n3 c3, .int .i64 0])]).run Try.prog w = .ok (.slice (some ⟨w.heap.size, 0, none⟩) 3 3) (w.alloc (.cells #[.int .i64 x, .slice A1 n1 c1, .int .i64 0, .int .i64 y, .slice A2 n2 c2, .int .i64 0, .int .i64 z, .slice A3 n3 c3, .int .i64 0] 47)) := by
  simp [go_sem, Value.cells]
theorem bGram4 (A1 A2 A4 : Option Addr) (n1 c1 n2 c2 n4 c4 : Nat) (s : Int) (w : World) : (Instr.build 27 #[(0, .slice A1 n1 c1), (1, .slice A2 n2 c2), (3, .int .i64 s), (4, .slice A4 n4 c4)]).run Try.prog w = .ok (.agg #[.slice A1 n1 c1, .slice A2 n2 c2, .slice none 0 0, .int .i64 s, .slice A4 n4 c4]) w := by simp [go_sem]
theorem bNd2 (x y : Int) (w : World) : (Instr.build 61 #[(0, .int .i64 x), (1, .int .i64 y)]).run Try.prog w = .ok (.agg #[.int .i64 x, .int .i64 y, .int .i64 0, .slice none 0 0]) w := by simp [go_sem]
theorem bNd3 (x y z : Int) (w : World) : (Instr.build 61 #[(0, .int .i64 x), (1, .int .i64 y), (2, .int .i64 z)]).run Try.prog w = .ok (.agg #[.int .i64 x, .int .i64 y, .int .i64 z, .slice none 0 0]) w := by simp [go_sem]
theorem bNdK (x y : Int) (A : Option Addr) (n c : Nat) (w : World) : (Instr.build 61 #[(0, .int .i64 x), (1, .int .i64 y), (3, .slice A n c)]).run Try.prog w = .ok (.agg #[.int .i64 x, .int .i64 y, .int .i64 0, .slice A n c]) w := by simp [go_sem]
abbrev nd4 (x y z : Int) (A : Option Addr) (n c : Nat) : Value := .agg #[.int .i64 x, .int .i64 y, .int .i64 z, .slice A n c]
theorem bNds5 (x1 y1 z1 x2 y2 z2 x3 y3 z3 x4 y4 z4 x5 y5 z5 : Int) (A1 A2 A3 A4 A5 : Option Addr) (n1 c1 n2 c2 n3 c3 n4 c4 n5 c5 : Nat) (w : World) : (Instr.buildSlice 49 5 #[(0, nd4 x1 y1 z1 A1 n1 c1), (1, nd4 x2 y2 z2 A2 n2 c2), (2, nd4 x3 y3 z3 A3 n3 c3), (3, nd4 x4 y4 z4 A4 n4 c4), (4, nd4 x5 y5 z5 A5 n5 c5)]).run Try.prog w = .ok (.slice (some ⟨w.heap.size, 0, none⟩) 5 5) (w.alloc (.cells #[.int .i64 x1, .int .i64 y1, .int .i64 z1, .slice A1 n1 c1, .int .i64 x2, .int .i64 y2, .int .i64 z2, .slice A2 n2 c2, .int .i64 x3, .int .i64 y3, .int .i64 z3, .slice A3 n3 c3, .int .i64 x4, .int .i64 y4, .int .i64 z4, .slice A4 n4 c4, .int .i64 x5, .int .i64 y5, .int .i64 z5, .slice A5 n5 c5] 61)) := by
  simp [go_sem, Value.cells]
attribute [go_sem ↓] bNds5 bNdK bNd3 bNd2 bGram4 bProds3 bProd1 bInts1 bInts3 bNons2 bTerms3 bTerm0

def ints1 (b : Nat) (l : List Int) : Value := if l = [4] then .slice (some ⟨b + 3, 0, none⟩) 1 1 else if l = [4, 1, 2] then .slice (some ⟨b + 4, 0, none⟩) 3 3 else .slice (some ⟨b + 5, 0, none⟩) 1 1
def ints2 (b : Nat) (l : List Int) : Value := if l = [] then .slice none 0 0 else if l = [0] then .slice (some ⟨b + 8, 0, none⟩) 1 1 else .slice (some ⟨b + 9, 0, none⟩) 3 3
theorem chapter_ct (w : World) : Ct Try.prog law20_chapter.id #[] w fun v w' => ∃ vg nv, v = .tuple #[vg, nv] ∧ rGram.atN w' w'.heap.size vg g20 ∧ (rSlice rNd).at1 w' w'.heap.size nv l20 ∧ Chg noB w w' := by
  refine law20_chapter.ct fun R hR => ?_
  unfold law20_chapter.run
  simp -dsimp [go_sem]
  obtain ⟨b, hb⟩ : ∃ b, w.heap.size = b := ⟨_, rfl⟩
  let G : Array Value := #[.slice (some ⟨b + 1, 0, none⟩) 3 3, .slice (some ⟨b + 2, 0, none⟩) 2 2, .slice none 0 0, .int .i64 4, .slice (some ⟨b + 6, 0, none⟩) 3 3]
  let L : List (Array Value × TypeId) := [(G, 27), (#[.string ⟨#[]⟩, .int .i64 0, .string ⟨#[43]⟩, .int .i64 0, .string ⟨#[110]⟩, .int .i64 0], 106), (#[.string ⟨#[]⟩, .string ⟨#[101]⟩], 9), (#[.int .i64 4], 3), (#[.int .i64 4, .int .i64 1, .int .i64 2], 3), (#[.int .i64 2], 3),
    (#[.int .i64 3, .slice (some ⟨b + 3, 0, none⟩) 1 1, .int .i64 0, .int .i64 4, .slice (some ⟨b + 4, 0, none⟩) 3 3, .int .i64 0, .int .i64 4, .slice (some ⟨b + 5, 0, none⟩) 1 1, .int .i64 0], 47), (G, 27), (#[.int .i64 0], 3), (#[.int .i64 1, .int .i64 2, .int .i64 3], 3),
    (#[.int .i64 2, .int .i64 (-1), .int .i64 0, .slice none 0 0, .int .i64 4, .int .i64 2, .int .i64 0, .slice (some ⟨b + 8, 0, none⟩) 1 1, .int .i64 1, .int .i64 (-1), .int .i64 1, .slice none 0 0, .int .i64 2, .int .i64 (-1), .int .i64 2, .slice none 0 0, .int .i64 4, .int .i64 1, .int .i64 0, .slice (some ⟨b + 9, 0, none⟩) 3 3], 61)]
  have hat := alls_at L w
  have hch := alls_chg w L w (Chg.refl _ _)
  rw [hb] at hat ⊢
  refine hR _ (alls w L) ⟨.agg G, .slice (some ⟨b + 10, 0, none⟩) 5 5, rfl, ?_, ?_, hch⟩
  · have up : ∀ {α : Type} {r : Rep α} {q : Nat} {v : Value} {l : List α} {o : Obj}, (alls w L).heap[q]? = some o → (rSlice r).at1 (alls w L) (q + 1) v l → (rSlice r).at1 (alls w L) (alls w L).heap.size v l := fun hq h => Rep.up h (by have := (Array.getElem?_eq_some_iff.1 hq).1; omega)
    have h1 := hat 1 _ _ rfl
    have h2 := hat 2 _ _ rfl
    have h3 := hat 3 _ _ rfl
    have h4 := hat 4 _ _ rfl
    have h5 := hat 5 _ _ rfl
    have h6 := hat 6 _ _ rfl
    have r3 : (rSlice rInt).at1 (alls w L) (b + 3 + 1) (.slice (some ⟨b + 3, 0, none⟩) 1 1) [4] := lit_at1 (l := [4]) (enc := cInt) h3 rfl (fun x hx => by simp at hx; subst hx; exact ⟨rfl, by unfold inI64; decide⟩) (by decide)
    have r4 : (rSlice rInt).at1 (alls w L) (b + 4 + 1) (.slice (some ⟨b + 4, 0, none⟩) 3 3) [4, 1, 2] := lit_at1 (l := [4, 1, 2]) (enc := cInt) h4 rfl (fun x hx => by simp at hx; rcases hx with rfl | rfl | rfl <;> exact ⟨rfl, by unfold inI64; decide⟩) (by decide)
    have r5 : (rSlice rInt).at1 (alls w L) (b + 5 + 1) (.slice (some ⟨b + 5, 0, none⟩) 1 1) [2] := lit_at1 (l := [2]) (enc := cInt) h5 rfl (fun x hx => by simp at hx; subst hx; exact ⟨rfl, by unfold inI64; decide⟩) (by decide)
    refine rGram_mk (up h1 (lit_at1 (l := g20.terms) (enc := cTerm) h1 rfl (fun x hx => ?_) (by decide))) (up h2 (lit_at1 (l := g20.nons) (enc := cStr) h2 rfl (fun x hx => ?_) (by decide))) ⟨none, 0, rfl, by decide, by decide, trivial, fun h => by cases h⟩ rfl (by unfold inI64; decide) (up h6 (lit_at1 (l := g20.prods) (enc := fun p => [.int .i64 p.1, ints1 b p.2.1, .int .i64 p.2.2]) h6 rfl (fun x hx => ?_) (by decide)))
    · simp [g20] at hx
      rcases hx with rfl | rfl | rfl <;> exact ⟨[_], [_], rfl, ⟨rfl, by decide⟩, ⟨rfl, by unfold inI64; decide⟩⟩
    · simp [g20] at hx
      rcases hx with rfl | rfl <;> exact ⟨rfl, by decide⟩
    · simp [g20] at hx
      rcases hx with rfl | rfl | rfl
      · exact ⟨[_], [_, _], rfl, ⟨rfl, by unfold inI64; decide⟩, [_], [_], rfl, Rep.up r3 (by omega), rfl, by unfold inI64; decide⟩
      · exact ⟨[_], [_, _], rfl, ⟨rfl, by unfold inI64; decide⟩, [_], [_], rfl, Rep.up r4 (by omega), rfl, by unfold inI64; decide⟩
      · exact ⟨[_], [_, _], rfl, ⟨rfl, by unfold inI64; decide⟩, [_], [_], rfl, Rep.up r5 (by omega), rfl, by unfold inI64; decide⟩
  · have h8 := hat 8 _ _ rfl
    have h9 := hat 9 _ _ rfl
    have h10 := hat 10 _ _ rfl
    have hsz := (Array.getElem?_eq_some_iff.1 h10).1
    have r8 : (rSlice rInt).at1 (alls w L) (b + 8 + 1) (.slice (some ⟨b + 8, 0, none⟩) 1 1) [0] := lit_at1 (l := [0]) (enc := cInt) h8 rfl (fun x hx => by simp at hx; subst hx; exact ⟨rfl, by unfold inI64; decide⟩) (by decide)
    have r9 : (rSlice rInt).at1 (alls w L) (b + 9 + 1) (.slice (some ⟨b + 9, 0, none⟩) 3 3) [1, 2, 3] := lit_at1 (l := [1, 2, 3]) (enc := cInt) h9 rfl (fun x hx => by simp at hx; rcases hx with rfl | rfl | rfl <;> exact ⟨rfl, by unfold inI64; decide⟩) (by decide)
    have r0 : (rSlice rInt).at1 (alls w L) (b + 10 + 1) (.slice none 0 0) [] := ⟨none, 0, rfl, by decide, by decide, trivial, fun h => by cases h⟩
    refine Rep.up (lit_at1 (l := l20) (enc := fun x => [.int .i64 x.1, .int .i64 x.2.1, .int .i64 x.2.2.1, ints2 b x.2.2.2]) h10 rfl (fun x hx => ?_) (by decide)) (B := b + 10 + 1) (by omega)
    have key : ∀ (x : Nd), inI64 x.1 → inI64 x.2.1 → inI64 x.2.2.1 → (rSlice rInt).at1 (alls w L) (b + 10 + 1) (ints2 b x.2.2.2) x.2.2.2 → rNd.ok (alls w L) (b + 10 + 1) [.int .i64 x.1, .int .i64 x.2.1, .int .i64 x.2.2.1, ints2 b x.2.2.2] x := fun x h1 h2 h3 h4 => ⟨[_], [_, _, _], rfl, ⟨rfl, h1⟩, [_], [_, _], rfl, ⟨rfl, h2⟩, [_], [_], rfl, ⟨rfl, h3⟩, h4⟩
    simp [l20] at hx
    rcases hx with rfl | rfl | rfl | rfl | rfl
    · exact key _ (by unfold inI64; decide) (by unfold inI64; decide) (by unfold inI64; decide) r0
    · exact key _ (by unfold inI64; decide) (by unfold inI64; decide) (by unfold inI64; decide) (Rep.up r8 (by omega))
    · exact key _ (by unfold inI64; decide) (by unfold inI64; decide) (by unfold inI64; decide) r0
    · exact key _ (by unfold inI64; decide) (by unfold inI64; decide) (by unfold inI64; decide) r0
    · exact key _ (by unfold inI64; decide) (by unfold inI64; decide) (by unfold inI64; decide) (Rep.up r9 (by omega))
end Go.Proofs.Ytkacbjhiobnbfaa

/-
  The chapter's example of trees is as the chapter tells.
-/
namespace Go.Px.Scan
open Go.Px Go.RowKit
theorem intV_flat (l : List Int) : intV l = l.flatMap cNdI := by rw [cNdI_flat]; rfl
theorem int_rd {G : Nat → Prop} {W w : World} {L : List Ch} {a : Option Addr} {c : Nat} {l : List Int} (h : St G W w L) (k : Nat) (hk : L[k]? = some (rowC 3 1 a l.length c (intV l))) (hl : ∀ x ∈ l, inI64 x) :
    (rSlice rInt).at1 w w.heap.size (.slice a l.length c) l := by
  obtain ⟨F, h1, _⟩ := h.get hk
  rw [intV_flat] at h1
  refine row_reads (r := rInt) (enc := cNdI) (m := l) h1 (fun _ _ => rfl) (by decide) rfl rfl (fun i x y hx hy => ?_) (Nat.le_refl _)
  rw [hx] at hy; injection hy with hy; subst hy
  exact ⟨rfl, hl _ (List.mem_of_getElem? hx)⟩
theorem box_rd {G : Nat → Prop} {W w : World} {L : List Ch} {b : Nat} {l : List Int} (h : St G W w L) (k : Nat) (hk : L[k]? = some (boxC b 3 (l.map (.int .i64 ·)))) (hl : ∀ x ∈ l, inI64 x) (hm : l.length ≤ maxLen) :
    (rSlice rInt).at1 w w.heap.size (.slice (some ⟨b, 0, none⟩) l.length l.length) l := by
  obtain ⟨F, h1, _⟩ := h.get hk
  have hb := (Array.getElem?_eq_some_iff.1 h1.2).1
  refine Rep.up (lit_at1 (l := l) (enc := cNdI) h1.2 (by rw [cNdI_flat]) (fun x hx => ⟨rfl, hl x hx⟩) hm) (by omega)
end Go.Px.Scan
namespace Go.Proofs.Ytkacbjhiobnbfaa
open Go.Px Go.Px.Scan Go.RowKit
set_option maxHeartbeats 1000000
set_option linter.unusedSimpArgs false
set_option linter.unusedVariables false
set_option maxRecDepth 100000
attribute [-go_sem] law20_awake.b1_10 law20_awake.b1_9 law20_awake.b1_8 law20_awake.b1_7 law20_awake.b1_6 law20_awake.b1_5 law20_awake.b1_4 law20_awake.b1_3 law20_awake.b1_2 law20_awake.b1_1

theorem New_ct (w : World) : Ct Try.prog tree_New.id #[] w fun v w' => v = .pointer (some ⟨w.heap.size, 0, none⟩) ∧ St noB w w' [boxC w.heap.size 81 [.slice none 0 0, .slice none 0 0]] := by
  refine tree_New.ct fun R hR => ?_
  unfold tree_New.run
  simp -dsimp [go_sem]
  exact hR _ _ ⟨rfl, (St.refl noB w).alloc #[.slice none 0 0, .slice none 0 0] 81⟩
theorem in64_small {l : List Int} (h : ∀ x ∈ l, 0 ≤ x ∧ x ≤ 1000) : ∀ x ∈ l, inI64 x := fun x hx => by have := h x hx; unfold inI64; omega
theorem awake20_ct (w : World) : Ct Try.prog law20_awake.id #[] w fun v w' => v = .bool true ∧ Chg noB w w' := by
  refine law20_awake.ct fun R hR => ?_
  unfold law20_awake.run
  simp -dsimp [go_sem]
  refine CALL_of (chapter_ct w) ?_
  rintro _ w1 ⟨vg, nv, rfl, hg, hn, hc1⟩
  obtain ⟨A1, c1, A2, c2, A3, c3, A4, c4, rfl, _⟩ := (rGram_open hg).ex
  unfold law20_awake.b1_10
  have s1 := (St.refl noB w1).alloc #[.slice A1 g20.terms.length c1, .slice A2 g20.nons.length c2, .slice A3 g20.levels.length c3, .int .i64 g20.start, .slice A4 g20.prods.length c4] 27
  simp -dsimp [go_sem]
  generalize w1.alloc (.cells #[.slice A1 g20.terms.length c1, .slice A2 g20.nons.length c2, .slice A3 g20.levels.length c3, .int .i64 g20.start, .slice A4 g20.prods.length c4] 27) = w2 at s1 ⊢
  generalize hq : w1.heap.size = q at s1 ⊢
  have rn : ∀ {w'}, Chg noB w1 w' → (rSlice rNd).at1 w' w1.heap.size nv l20 ∧ w1.heap.size ≤ w'.heap.size := fun hc => ⟨Rep.below hn (hc.below (Nat.le_refl _) fun _ _ => id), hc.size⟩
  have rg : ∀ {w'}, Chg noB w1 w' → rGram.atN w' w1.heap.size (.agg #[.slice A1 g20.terms.length c1, .slice A2 g20.nons.length c2, .slice A3 g20.levels.length c3, .int .i64 g20.start, .slice A4 g20.prods.length c4]) g20 ∧ w1.heap.size ≤ w'.heap.size := fun hc => ⟨rGram_below hg (hc.below (Nat.le_refl _) fun _ _ => id), hc.size⟩
  have hN : l20.length ≤ 3000000000000 := by decide
  have hkd : ∀ x ∈ l20, x.2.2.2.length * 8 ≤ maxBytes := by decide
  have h4 : inI64 4 := by unfold inI64; decide
  refine CALL_of (Frontier_ct (rn s1.chg).1 (rn s1.chg).2 hN hkd h4) ?_
  intro v3 w3 hp
  rw [l20_fr] at hp
  obtain ⟨fa, fc, rfl, s3⟩ := hp
  have s3 := s1.seq s3
  unfold law20_awake.b1_9
  simp -dsimp [go_sem]
  refine CALL_of (Rightmost_ct (rn s3.chg).1 (rn s3.chg).2 hN hkd h4) ?_
  intro v4 w4 hp
  rw [l20_rm] at hp
  obtain ⟨ra, rc, rfl, s4⟩ := hp
  have s4 := s3.seq s4
  unfold law20_awake.b1_8
  have y4 := s4.box 0 rfl
  simp [boxAt] at y4
  simp -dsimp [go_sem, y4]
  refine CALL_of (TreeText_ct (rg s4.chg).1 (rn s4.chg).1 (rn s4.chg).2 hN hkd h4) ?_
  rintro _ w5 ⟨rfl, hc5⟩
  have s5 := s4.old hc5
  rw [l20_tx]
  unfold law20_awake.b1_7
  simp -dsimp [go_sem]
  unfold law20_awake.b1_6
  simp -dsimp [go_sem]
  unfold law20_awake.b1_5
  have s6 := s5.alloc #[.int .i64 2, .int .i64 1, .int .i64 2] 3
  simp -dsimp [go_sem]
  generalize w5.alloc (.cells #[.int .i64 2, .int .i64 1, .int .i64 2] 3) = w6 at s6 ⊢
  generalize w5.heap.size = b6 at s6 ⊢
  have d212 : ∀ x ∈ [(2 : Int), 1, 2], inI64 x := in64_small (by simp)
  have d12 : ∀ x ∈ [(1 : Int), 2], inI64 x := in64_small (by simp)
  have d21 : ∀ x ∈ [(2 : Int), 1], inI64 x := in64_small (by simp)
  refine CALL_of (Ints_ct (int_rd (l := [2, 1, 2]) s6 1 rfl d212) (box_rd (l := [2, 1, 2]) s6 3 rfl d212 (by decide)) (Nat.le_refl _)) ?_
  rintro _ w7 ⟨rfl, hc7⟩
  have s7 := s6.old hc7
  simp -dsimp [go_sem]
  unfold law20_awake.b1_4
  have s8 := s7.alloc #[.int .i64 1, .int .i64 2] 3
  simp -dsimp [go_sem]
  generalize w7.alloc (.cells #[.int .i64 1, .int .i64 2] 3) = w8 at s8 ⊢
  generalize w7.heap.size = b8 at s8 ⊢
  refine CALL_of (Ints_ct (int_rd (l := [1, 2]) s8 2 rfl d12) (box_rd (l := [1, 2]) s8 4 rfl d12 (by decide)) (Nat.le_refl _)) ?_
  rintro _ w9 ⟨rfl, hc9⟩
  have s9 := s8.old hc9
  have ba : ∀ l : Txt, (BA l).toList = l := fun l => by rw [ByteArray.toList_eq]; simp [BA]
  simp -dsimp [go_sem, ba, t20]
  unfold law20_awake.b1_3
  have y9 := s9.box 0 rfl
  simp [boxAt] at y9
  have s10 := s9.alloc #[.int .i64 2, .int .i64 1, .int .i64 2] 3
  simp -dsimp [go_sem, y9]
  generalize w9.alloc (.cells #[.int .i64 2, .int .i64 1, .int .i64 2] 3) = w10 at s10 ⊢
  generalize w9.heap.size = b10 at s10 ⊢
  have up1 : ∀ {w'}, Chg noB w1 w' → rGram.atN w' w'.heap.size (.agg #[.slice A1 g20.terms.length c1, .slice A2 g20.nons.length c2, .slice A3 g20.levels.length c3, .int .i64 g20.start, .slice A4 g20.prods.length c4]) g20 := fun hc => rGram_up (rg hc).1 (rg hc).2
  have up2 : ∀ {w'}, Chg noB w1 w' → (rSlice rNd).at1 w' w'.heap.size nv l20 := fun hc => Rep.up (rn hc).1 (rn hc).2
  refine CALL_of (Derives_ct (up1 s10.chg) (up2 s10.chg) (box_rd (l := [2, 1, 2]) s10 5 rfl d212 (by decide)) (Nat.le_refl _) hN hkd h4) ?_
  rintro _ w11 ⟨rfl, hc11⟩
  have s11 := s10.old hc11
  rw [l20_d1]
  simp -dsimp [go_sem]
  unfold law20_awake.b1_2
  have y11 := s11.box 0 rfl
  simp [boxAt] at y11
  have s12 := s11.alloc #[.int .i64 2, .int .i64 1] 3
  simp -dsimp [go_sem, y11]
  generalize w11.alloc (.cells #[.int .i64 2, .int .i64 1] 3) = w12 at s12 ⊢
  generalize w11.heap.size = b12 at s12 ⊢
  refine CALL_of (Derives_ct (up1 s12.chg) (up2 s12.chg) (box_rd (l := [2, 1]) s12 6 rfl d21 (by decide)) (Nat.le_refl _) hN hkd h4) ?_
  rintro _ w13 ⟨rfl, hc13⟩
  rw [l20_d2]
  simp -dsimp [go_sem]
  unfold law20_awake.b1_1
  refine CALL_of (New_ct w13) ?_
  rintro _ w14 ⟨rfl, s14⟩
  simp -dsimp [go_sem]
  exact hR _ _ ⟨rfl, hc1.trans ((s12.chg.trans hc13).trans s14.chg)⟩
end Go.Proofs.Ytkacbjhiobnbfaa

/-
  TreeReads.
-/
namespace Go.Px.Scan
open Go.Px Go.RowKit
theorem nd_get {l : List Nd} (h : ndIn l) (n : Nat) : inI64 (l.getD n zN).1 ∧ inI64 (l.getD n zN).2.1 := by
  by_cases hn : n < l.length
  · have := h _ (List.getElem_mem hn)
    simp only [List.getD_eq_getElem?_getD, List.getElem?_eq_getElem hn, Option.getD_some]
    exact ⟨this.1, this.2.1⟩
  · have e : l.getD n zN = zN := by simp [Nat.le_of_not_lt hn]
    rw [e]; exact ⟨by unfold inI64; decide, by unfold inI64; decide⟩
theorem fr_in {l : List Nd} (h : ndIn l) {root : Int} {rt : Bool} {r : List Int} (hl : lookP l rt (frV l) [] root = some r) : ∀ x ∈ r, inI64 x := by
  rw [lookP_walk] at hl
  cases hw : walkP l rt root with
  | none => rw [hw] at hl; cases hl
  | some s =>
    rw [hw] at hl
    refine looks_inv (V := frV l) (fun s => ∀ x ∈ s, inI64 x) (fun s n s' h0 hv => ?_) s [] r (by simp) hl
    unfold frV at hv
    injection hv with hv
    subst hv
    split
    · intro x hx
      rcases List.mem_append.1 hx with hx | hx
      · exact h0 x hx
      · rw [List.mem_singleton] at hx; subst hx; exact (nd_get h n).1
    · exact h0
theorem rm_in {l : List Nd} (h : ndIn l) {root : Int} {rt : Bool} {r : List Int} (hl : lookP l rt (rmV l) [] root = some r) : ∀ x ∈ r, inI64 x := by
  rw [lookP_walk] at hl
  cases hw : walkP l rt root with
  | none => rw [hw] at hl; cases hl
  | some s =>
    rw [hw] at hl
    refine looks_inv (V := rmV l) (fun s => ∀ x ∈ s, inI64 x) (fun s n s' h0 hv => ?_) s [] r (by simp) hl
    unfold rmV at hv
    injection hv with hv
    subst hv
    split
    · intro x hx
      rcases List.mem_append.1 hx with hx | hx
      · exact h0 x hx
      · rw [List.mem_singleton] at hx; subst hx; exact (nd_get h n).2
    · exact h0
/-- What a reader gives: a row, or none. -/
def rdV : Option (List Int) → Option Addr → Nat → Value
  | some r, a, c => .slice a r.length c
  | none, _, _ => .slice none 0 0
def rdE (o : Option (List Int)) : Int := if o.isSome then 0 else 1
end Go.Px.Scan
namespace Go.Proofs.Ytkacbjhiobnbfaa
open Go.Px Go.Px.Scan Go.RowKit
set_option maxHeartbeats 1000000
set_option linter.unusedSimpArgs false
set_option linter.unusedVariables false
set_option maxRecDepth 100000
attribute [-go_sem] law20_TreeReads.b1_6 law20_TreeReads.b1_5 law20_TreeReads.b1_4 law20_TreeReads.b1_3 law20_TreeReads.b1_2 law20_TreeReads.b1_1

/-- What a reader gives back, in any case. -/
theorem reader {G : Nat → Prop} {W w w' : World} {L : List Ch} {v : Value} {o : Option (List Int)} (s : St G W w L) (h : match (generalizing := false) o with
      | some r => ∃ a c, v = .tuple #[.slice a r.length c, .int .i64 0] ∧ St noB w w' [rowC 3 1 a r.length c (intV r)]
      | none => v = .tuple #[.slice none 0 0, .int .i64 1] ∧ Chg noB w w') : ∃ a c, v = .tuple #[.slice a (o.getD []).length c, .int .i64 (rdE o)] ∧ St G W w' (L ++ [rowC 3 1 a (o.getD []).length c (intV (o.getD []))]) := by
  cases o with
  | some r => obtain ⟨a, c, rfl, s1⟩ := h; exact ⟨a, c, rfl, s.seq s1⟩
  | none => obtain ⟨rfl, hc⟩ := h; exact ⟨none, 0, rfl, (s.old hc).nilRow 3 1⟩
theorem TreeReads_ct {w : World} {B : Nat} {nv : Value} {l : List Nd} {root : Int} (h : (rSlice rNd).at1 w B nv l) (hB : B ≤ w.heap.size) (hN : l.length * 48 ≤ maxBytes) (hkd : ∀ x ∈ l, x.2.2.2.length * 8 ≤ maxBytes) (hr : inI64 root) :
    Ct Try.prog law20_TreeReads.id #[nv, .int .i64 root] w fun v w' => v = .bool true ∧ Chg noB w w' := by
  refine law20_TreeReads.ct fun R hR => ?_
  have hN3 : l.length ≤ 3000000000000 := by unfold maxBytes at hN; omega
  have hin := ndIn_of h
  have rn : ∀ {w'}, Chg noB w w' → (rSlice rNd).at1 w' B nv l ∧ B ≤ w'.heap.size := fun hc => ⟨Rep.below h (hc.below hB fun _ _ => id), by have := hc.size; omega⟩
  unfold law20_TreeReads.run
  simp -dsimp [go_sem]
  refine CALL_of (refNdCopy_ct h hB hN hkd) ?_
  rintro _ w1 ⟨ca, cc, vs, rfl, s1⟩
  have rc : ∀ {w'}, Chg noB w1 w' → (rSlice rNd).at1 w' w'.heap.size (.slice ca l.length cc) l := fun hc => ndC_at (s1.old hc) 0 1 rfl rfl hin
  have hfi : ∀ x ∈ (lookP l false (frV l) [] root).getD [], inI64 x := by
    cases hh : lookP l false (frV l) [] root with
    | none => simp
    | some r => exact fr_in hin hh
  have hri : ∀ x ∈ (lookP l true (rmV l) [] root).getD [], inI64 x := by
    cases hh : lookP l true (rmV l) [] root with
    | none => simp
    | some r => exact rm_in hin hh
  refine CALL_of (Frontier_ct (rc (Chg.refl _ _)) (Nat.le_refl _) hN3 hkd hr) ?_
  intro v2 w2 hp
  have hc2 : Chg noB w1 w2 := by
    cases hh : lookP l false (frV l) [] root with
    | none => rw [hh] at hp; exact hp.2
    | some r => rw [hh] at hp; obtain ⟨_, _, _, s⟩ := hp; exact s.chg
  obtain ⟨fa, fc, rfl, s2⟩ := reader (St.refl noB w1) hp
  obtain ⟨fr, hfr⟩ : ∃ fr, lookP l false (frV l) [] root = fr := ⟨_, rfl⟩
  obtain ⟨rm, hrm⟩ : ∃ rm, lookP l true (rmV l) [] root = rm := ⟨_, rfl⟩
  rw [hfr] at s2 hfi ⊢
  rw [hrm] at hri
  unfold law20_TreeReads.b1_6
  simp -dsimp [go_sem]
  refine CALL_of (Rightmost_ct (rc s2.chg) (Nat.le_refl _) hN3 hkd hr) ?_
  intro v3 w3 hp
  obtain ⟨ra, rcp, rfl, s3⟩ := reader s2 hp
  rw [hrm] at s3 ⊢
  unfold law20_TreeReads.b1_5
  simp -dsimp [go_sem]
  have h13 := s1.chg.trans s3.chg
  refine CALL_of (refFrontier_ct (rn h13).1 (rn h13).2 hN3 hr) ?_
  intro v4 w4 hp
  obtain ⟨xa, xc, rfl, s4⟩ := reader s3 hp
  rw [hfr] at s4 ⊢
  unfold law20_TreeReads.b1_4
  simp -dsimp [go_sem]
  have h14 := s1.chg.trans s4.chg
  refine CALL_of (refRightmost_ct (rn h14).1 (rn h14).2 hN3 hr) ?_
  intro v5 w5 hp
  obtain ⟨ya, yc, rfl, s5⟩ := reader s4 hp
  rw [hrm] at s5 ⊢
  unfold law20_TreeReads.b1_3
  simp -dsimp [go_sem]
  unfold law20_TreeReads.b1_2
  refine CALL_of (Ints_ct (int_rd s5 0 rfl hfi) (int_rd s5 2 rfl hfi) (Nat.le_refl _)) ?_
  rintro _ w6 ⟨rfl, hc6⟩
  have s6 := s5.old hc6
  simp -dsimp [go_sem]
  refine CALL_of (Ints_ct (int_rd s6 1 rfl hri) (int_rd s6 3 rfl hri) (Nat.le_refl _)) ?_
  rintro _ w7 ⟨rfl, hc7⟩
  have s7 := s6.old hc7
  have h17 := s1.chg.trans s7.chg
  simp -dsimp [go_sem]
  unfold law20_TreeReads.b1_1
  refine CALL_of (refNdSame_ct (rc s7.chg) (Rep.up (rn h17).1 (rn h17).2) (Nat.le_refl _)) ?_
  rintro _ w8 ⟨rfl, hc8⟩
  simp -dsimp [go_sem]
  refine CALL_of (awake20_ct w8) ?_
  rintro _ w9 ⟨rfl, hc9⟩
  exact hR _ _ ⟨rfl, (h17.trans hc8).trans hc9⟩
end Go.Proofs.Ytkacbjhiobnbfaa

