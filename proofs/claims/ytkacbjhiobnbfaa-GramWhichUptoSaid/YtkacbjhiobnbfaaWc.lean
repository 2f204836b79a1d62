/-
  The law's lend.
-/
import Derived.Test.YtkacbjhiobnbfaaWb
import Derived.Test.YtkacbjhiobnbfaaGd
namespace Go.Px
open Go.RowKit
/-- A list in a block of its own, read. -/
theorem St.boxRd {G : Nat → Prop} {W w : World} {L : List Ch} {α : Type} {r : Rep α} {enc : α → List Value} {b : Nat} {e : TypeId} {cs : List Value} {l : List α} (h : St G W w L) (k : Nat) (hk : L[k]? = some (boxC b e cs)) (hcs : cs = l.flatMap enc) (hr : ∀ x ∈ l, r.ok w (b + 1) (enc x) x) (hl : l.length ≤ maxLen) :
    (rSlice r).at1 w w.heap.size (.slice (some ⟨b, 0, none⟩) l.length l.length) l := by
  obtain ⟨F, ho, _⟩ := h.get hk
  have hb := (Array.getElem?_eq_some_iff.1 ho.2).1
  exact Rep.up (lit_at1 (enc := enc) ho.2 (by rw [← hcs]) hr hl) (by omega)
end Go.Px
namespace Go.Proofs.Ytkacbjhiobnbfaa
open Go.Px Go.Px.Scan Go.RowKit
set_option maxHeartbeats 1000000
set_option linter.unusedSimpArgs false
set_option linter.unusedVariables false
set_option maxRecDepth 100000
attribute [-go_sem] Builtin.append_ law02_lend.b2 law02_lend.b3 law02_lend.b5 law02_lend.b6 law02_lend.b9_1

abbrev sSpare : ByteArray := ⟨#[115, 112, 97, 114, 101]⟩
def shrink : Value → Value | .slice a n c => .slice a (n - 1) c | v => v
structure GFitR (g : Gr) : Prop where
  terms : g.terms.length * 24 ≤ reachN
  nons : g.nons.length * 16 ≤ reachN
  levels : g.levels.length * 8 ≤ reachN
  prods : g.prods.length * 40 ≤ reachN
  right : ∀ p ∈ g.prods, p.2.1.length * 8 ≤ reachN
theorem GFitR.fit {g : Gr} (h : GFitR g) : GFit g := by
  obtain ⟨h1, h2, h3, h4, h5⟩ := h
  unfold reachN at *
  exact ⟨by unfold maxBytes; omega, by unfold maxBytes; omega, by unfold maxBytes; omega, by unfold maxBytes; omega, fun p hp => by have := h5 p hp; unfold maxBytes; omega⟩
/-- What is lent, in pieces. -/
def LgC (b : Nat) (g : Gr) (at' asn ai ar ap : Option Addr) (ct cs ci cr cp : Nat) (vs : List Value) : List Ch :=
  [boxC b 87 [.slice at' g.terms.length ct, .slice asn g.nons.length cs, .slice ai g.levels.length ci, .int .i64 g.start, .slice ap g.prods.length cp, .slice at' (g.terms.length + 1) ct, .slice asn (g.nons.length + 1) cs, .slice ai (g.levels.length + 1) ci, .slice ar g.prods.length cr, .slice ap (g.prods.length + 1) cp],
   rowC 106 2 at' (g.terms.length + 1) ct (g.terms.flatMap xTerm ++ [Value.string sSpare, .int .i64 0]), rowC 9 1 asn (g.nons.length + 1) cs (g.nons.flatMap xStr ++ [Value.string sSpare]), rowC 3 1 ai (g.levels.length + 1) ci (g.levels.flatMap xInt ++ [Value.int .i64 77]),
   rowC 24 1 ar g.prods.length cr vs, rowC 47 3 ap (g.prods.length + 1) cp ((g.prods.zip (vs.map shrink)).flatMap xPr ++ [Value.int .i64 77, .slice none 0 0, .int .i64 0]), rowsC 3 1 vs (g.prods.map fun p => p.2.1.flatMap xInt ++ [Value.int .i64 77])]
theorem uSls : Try.prog.underlying 85 = some (.slice 24) := Try.underlying85
theorem iSl : (Try.prog.info? 24).map (fun i => (i.zero, i.size, i.bytes)) = some (some (.slice none 0 0), 1, 24) := by kernel_rfl
theorem bTermS (s : ByteArray) (w : World) : (Instr.build 106 #[(0, .string s)]).run Try.prog w = .ok (.agg #[.string s, .int .i64 0]) w := by simp [go_sem]
theorem bTerm1S (s : ByteArray) (x : Int) (w : World) : (Instr.buildSlice 22 1 #[(0, .agg #[.string s, .int .i64 x])]).run Try.prog w = .ok (.slice (some ⟨w.heap.size, 0, none⟩) 1 1) (w.alloc (.cells #[.string s, .int .i64 x] 106)) := by
  simp [go_sem, Value.cells]
theorem bProd77 (x : Int) (w : World) : (Instr.build 47 #[(0, .int .i64 x)]).run Try.prog w = .ok (.agg #[.int .i64 x, .slice none 0 0, .int .i64 0]) w := by simp [go_sem]
theorem bProdL (x y : Int) (A : Option Addr) (n c : Nat) (w : World) : (Instr.build 47 #[(0, .int .i64 x), (1, .slice A n c), (2, .int .i64 y)]).run Try.prog w = .ok (.agg #[.int .i64 x, .slice A n c, .int .i64 y]) w := by simp [go_sem]
theorem bProd1S (x y : Int) (A : Option Addr) (n c : Nat) (w : World) : (Instr.buildSlice 25 1 #[(0, .agg #[.int .i64 x, .slice A n c, .int .i64 y])]).run Try.prog w = .ok (.slice (some ⟨w.heap.size, 0, none⟩) 1 1) (w.alloc (.cells #[.int .i64 x, .slice A n c, .int .i64 y] 47)) := by
  simp [go_sem, Value.cells]
theorem bSl1 (A : Option Addr) (n c : Nat) (w : World) : (Instr.buildSlice 85 1 #[(0, .slice A n c)]).run Try.prog w = .ok (.slice (some ⟨w.heap.size, 0, none⟩) 1 1) (w.alloc (.cells #[.slice A n c] 24)) := by
  simp [go_sem, Value.cells]
theorem bGram5 (A1 A2 A3 A4 : Option Addr) (n1 c1 n2 c2 n3 c3 n4 c4 : Nat) (x : Int) (w : World) : (Instr.build 27 #[(0, .slice A1 n1 c1), (1, .slice A2 n2 c2), (2, .slice A3 n3 c3), (3, .int .i64 x), (4, .slice A4 n4 c4)]).run Try.prog w = .ok (.agg #[.slice A1 n1 c1, .slice A2 n2 c2, .slice A3 n3 c3, .int .i64 x, .slice A4 n4 c4]) w := by simp [go_sem]
attribute [go_sem ↓] bTermS bTerm1S bProd77 bProdL bProd1S bSl1 bGram5

section
variable {w : World} {R : EP} {B q b : Nat} {g : Gr} {A1 A2 A3 A4 : Option Addr} {c1 c2 c3 c4 : Nat}
/-- The state of lend: the lists that are lent so far. -/
def LnB (q b : Nat) (g : Gr) (A1 A2 A3 A4 : Option Addr) (c1 c2 c3 c4 : Nat) (v5 v6 v7 v8 v9 : Value) : List Ch :=
  [boxC q 27 [.slice A1 g.terms.length c1, .slice A2 g.nons.length c2, .slice A3 g.levels.length c3, .int .i64 g.start, .slice A4 g.prods.length c4], boxC b 87 [.slice none 0 0, .slice none 0 0, .slice none 0 0, .int .i64 0, .slice none 0 0, v5, v6, v7, v8, v9]]

theorem lend_b6 {w1 : World} (h4 : (rSlice rPr).at1 w B (.slice A4 g.prods.length c4) g.prods) (hB : B ≤ w.heap.size) (hfit : GFitR g) {at' asn ai : Option Addr} {ct cs ci : Nat}
    (s : St noB w w1 (LnB q b g A1 A2 A3 A4 c1 c2 c3 c4 (.slice at' (g.terms.length + 1) ct) (.slice asn (g.nons.length + 1) cs) (.slice ai (g.levels.length + 1) ci) (.slice none 0 0) (.slice none 0 0) ++ [rowC 106 2 at' (g.terms.length + 1) ct (g.terms.flatMap xTerm ++ [Value.string sSpare, .int .i64 0]), rowC 9 1 asn (g.nons.length + 1) cs (g.nons.flatMap xStr ++ [Value.string sSpare]), rowC 3 1 ai (g.levels.length + 1) ci (g.levels.flatMap xInt ++ [Value.int .i64 77])]))
    (hR : ∀ w' ar ap cr cp vs, St noB w w' (LgC b g at' asn ai ar ap ct cs ci cr cp vs) → R (.returned (.pointer (some ⟨b, 0, none⟩))) w') :
    law02_lend.b6 R (.pointer (some ⟨q, 0, none⟩)) (.pointer (some ⟨b, 0, none⟩)) w1 := by
  obtain ⟨_, _, e4, hl4, hm4, _⟩ := slice_form h4
  injection e4 with e4 e5 e6; subst e4 e6
  have hT := (s.rowSize 2 rfl).2
  have hS := (s.rowSize 3 rfl).2
  have hI := (s.rowSize 4 rfl).2
  have s1 := ((s.nilRow 24 1).nilRow 47 3).push (c := rowsC 3 1 [] []) ⟨rfl, fun i v xs h => by simp at h⟩
  unfold law02_lend.b6
  refine law02_lend.l8_intro _ _ _ _ _ (fun y w' => ∃ (k : Nat) (ar ap : Option Addr) (cr cp : Nat) (vs : List Value), y = .int .i64 k ∧ k ≤ g.prods.length ∧ vs.length = k ∧ St noB w w' (LnB q b g A1 A2 A3 A4 c1 c2 c3 c4 (.slice at' (g.terms.length + 1) ct) (.slice asn (g.nons.length + 1) cs) (.slice ai (g.levels.length + 1) ci) (.slice ar k cr) (.slice ap k cp) ++ [rowC 106 2 at' (g.terms.length + 1) ct (g.terms.flatMap xTerm ++ [Value.string sSpare, .int .i64 0]), rowC 9 1 asn (g.nons.length + 1) cs (g.nons.flatMap xStr ++ [Value.string sSpare]), rowC 3 1 ai (g.levels.length + 1) ci (g.levels.flatMap xInt ++ [Value.int .i64 77]),
      rowC 24 1 ar k cr vs, rowC 47 3 ap k cp (((g.prods.take k).zip (vs.map shrink)).flatMap xPr), rowsC 3 1 vs ((g.prods.take k).map fun p => p.2.1.flatMap xInt ++ [Value.int .i64 77])])) (fun y _ => g.prods.length - iv y) ⟨0, none, none, 0, 0, [], rfl, Nat.zero_le _, rfl, s1⟩ ?_
  rintro _ w2 ⟨k, ar, ap, cr, cp, vs, rfl, hk, hvs, s2⟩ C hC
  have y2 := s2.box 0 rfl
  have z2 := s2.box 1 rfl
  simp [boxAt] at y2 z2
  have g4' := hfit.prods
  have g4n : g.prods.length * 40 ≤ 140737488351232 := g4'
  simp -dsimp [go_sem, y2]
  refine SPL_intro (fun p1 => ?_) (fun p1 => ?_) <;> simp at p1
  · obtain ⟨bp, op, vr, ep, hbp, x1, x2, x3, hr, zl, zv⟩ := prods_at h4 p1
    subst ep
    have hbpw : bp < w.heap.size := by omega
    have cell : ∀ (w' : World) (j : Nat) (u : Value), Chg noB w w' → w.cell? ⟨bp, j, none⟩ = some u → w'.cell? ⟨bp, j, none⟩ = some u := fun w' j u hc hu => by rw [← hu]; exact hc.cell (p := ⟨bp, j, none⟩) hbpw id
    obtain ⟨Ar, cr', rfl, hr1, hr2, _⟩ := slice_form hr
    have htk : g.prods.take (k + 1) = g.prods.take k ++ [g.prods[k]] := List.take_succ_eq_append_getElem p1
    have g5' := hfit.right _ (List.getElem_mem p1)
    have wk := wrap_succ p1 (by omega)
    have g5n : g.prods[k].2.1.length * 8 ≤ 140737488351232 := g5'
    obtain ⟨p, hp⟩ : ∃ p, g.prods[k] = p := ⟨_, rfl⟩
    have hp' : g.prods[k].2.1 = p.2.1 := by rw [hp]
    have hpa : g.prods[k].1 = p.1 := by rw [hp]
    have hpb : g.prods[k].2.2 = p.2.2 := by rw [hp]
    rw [hp] at x1 x2 x3 hr zl zv hr1 htk g5' g5n
    have x2' := cell _ _ _ s2.chg x2
    unfold law02_lend.b9_1
    simp -dsimp [go_sem, y2, p1, x2', hp']
    have s3 := s2.nilRow 3 1
    refine s3.appendRd (r := rInt) (enc := xInt) 8 rfl uInts iInt rfl (by decide) (Rep.below hr (s3.chg.below hB fun _ _ => id)) (fun h _ => h.1) (fun x _ u hu => by simp [xInt] at hu; subst hu; rfl) (fun _ _ => rfl) (by unfold maxLen; omega) (by unfold maxBytes; omega) ?_
    intro a4 c4' w4 s4
    rw [Nat.zero_add] at s4
    simp -dsimp [go_sem]
    refine s4.append1 8 rfl uInts iInt rfl (by decide) (news := [Value.int .i64 77]) rfl (by simp [Value.oneCell']) (by unfold maxLen; omega) (by unfold maxBytes; omega) fun g5 c5 w5 s5 => ?_
    have y5 := s5.box 0 rfl
    have z5 := s5.box 1 rfl
    simp [boxAt] at y5 z5
    have hc5 := (s5.rowSize 8 rfl).2
    simp -dsimp [go_sem, z5]
    refine s5.append1 5 rfl uSls iSl rfl (by omega) (news := [.slice (some ⟨g5, 0, none⟩) (p.2.1.length + 1) c5]) rfl (by simp [Value.oneCell']) (by omega) (by unfold maxBytes; omega) fun g6 c6 w6 s6 => ?_
    have z6 := s6.box 1 rfl
    simp [boxAt] at z6
    have s7 := s6.set 1 rfl 8 (.slice (some ⟨g6, 0, none⟩) (k + 1) c6)
    have y7 := s7.box 0 rfl
    have z7 := s7.box 1 rfl
    simp [boxAt] at y7 z7
    have x1' := cell _ _ _ s7.chg x1
    have x3' := cell _ _ _ s7.chg x3
    have wr : IntKind.i64.wrap (p.2.1.length : Int) = (p.2.1.length : Int) := IntWalk.i64_in _ (by omega)
    have hpc : p.2.1.length ≤ c5 := by omega
    have s8 := (s7.old (Chg.refl noB _).drew).alloc #[Value.int .i64 p.1, .slice (some ⟨g5, 0, none⟩) p.2.1.length c5, .int .i64 p.2.2] 47
    have z89 := (s8.box 1 rfl).1.2.2.2.2.2.2.2.2.2.1
    have hdr : ∀ (w' : World) (o : Obj), (w'.alloc o).drew = (w'.drew).alloc o := fun _ _ => rfl
    have z89' : ((w6.setCell ⟨b, 8, none⟩ (.slice (some ⟨g6, 0, none⟩) (k + 1) c6)).alloc (.cells #[Value.int .i64 p.1, .slice (some ⟨g5, 0, none⟩) p.2.1.length c5, .int .i64 p.2.2] 47)).cell? ⟨b, 9, none⟩ = some (.slice ap k cp) := z89
    simp -dsimp [go_sem, z6, z7, y7, p1, x1', x3', wr, hpc, hpa, hpb, z89']
    have s7d := s7.old (Chg.refl noB _).drew
    have hsz7 : (w6.setCell ⟨b, 8, none⟩ (.slice (some ⟨g6, 0, none⟩) (k + 1) c6)).heap.size = w6.heap.size := by simp
    clear z89 z89' s8
    rw [← hsz7]
    generalize (w6.setCell ⟨b, 8, none⟩ (.slice (some ⟨g6, 0, none⟩) (k + 1) c6)) = w7 at s7 z7 y7 ⊢
    refine s7.append1d 6 rfl uProds iProd rfl (by omega) (news := [Value.int .i64 p.1, .slice (some ⟨g5, 0, none⟩) p.2.1.length c5, .int .i64 p.2.2]) rfl (by simp [Value.oneCell']) (by omega) (by unfold maxBytes; omega) fun g9 c9 w9 s9 => ?_
    have z9 := s9.box 1 rfl
    simp [boxAt] at z9
    have s10 := s9.set 1 rfl 9 (.slice (some ⟨g9, 0, none⟩) (k + 1) c9)
    simp -dsimp [go_sem, z9, wk]
    have s11 := (s10.merge (j := 8) (k := 7) rfl rfl (by omega) (e := rowsC 3 1 (vs ++ [Value.slice (some ⟨g5, 0, none⟩) (p.2.1.length + 1) c5]) (((g.prods.take k).map fun p => p.2.1.flatMap xInt ++ [Value.int .i64 77]) ++ [p.2.1.flatMap xInt ++ [Value.int .i64 77]])) fun F F' h1 h2 => rowsC_snoc (size := 1) h1 h2).take 8
    have e2 : (((g.prods.take (k + 1)).zip ((vs ++ [Value.slice (some ⟨g5, 0, none⟩) (p.2.1.length + 1) c5]).map shrink)).flatMap xPr) = (((g.prods.take k).zip (vs.map shrink)).flatMap xPr) ++ [Value.int .i64 p.1, .slice (some ⟨g5, 0, none⟩) p.2.1.length c5, .int .i64 p.2.2] := by
      rw [htk, List.map_append, List.zip_append (by simp [hvs]; omega), List.flatMap_append]
      simp [xPr, shrink]
    have e3 : ((g.prods.take (k + 1)).map fun p => p.2.1.flatMap xInt ++ [Value.int .i64 77]) = ((g.prods.take k).map fun p => p.2.1.flatMap xInt ++ [Value.int .i64 77]) ++ [p.2.1.flatMap xInt ++ [Value.int .i64 77]] := by rw [htk, List.map_append]; rfl
    refine hC _ _ ⟨k + 1, some ⟨g6, 0, none⟩, some ⟨g9, 0, none⟩, c6, c9, vs ++ [.slice (some ⟨g5, 0, none⟩) (p.2.1.length + 1) c5], by simp, by omega, by simp [hvs], ?_⟩ (by simp [iv]; omega)
    rw [e2, e3]
    exact s11
  · have hkl : k = g.prods.length := by omega
    subst hkl
    rw [List.take_length] at s2
    unfold law02_lend.b5
    simp -dsimp [go_sem, z2]
    refine s2.append1 6 rfl uProds iProd rfl (by omega) (news := [Value.int .i64 77, .slice none 0 0, .int .i64 0]) rfl (by simp [Value.oneCell']) (by unfold maxLen; omega) (by unfold maxBytes; omega) fun g3 c3' w3 s3 => ?_
    have z3 := s3.box 1 rfl
    simp [boxAt] at z3
    have hpc := (s3.rowSize 6 rfl).2.1
    have s4 := s3.set 1 rfl 9 (.slice (some ⟨g3, 0, none⟩) (g.prods.length + 1) c3')
    have y4 := s4.box 0 rfl
    have z4 := s4.box 1 rfl
    simp [boxAt] at y4 z4
    have q1 : g.terms.length ≤ ct := by omega
    have q2 : g.nons.length ≤ cs := by omega
    have q3 : g.levels.length ≤ ci := by omega
    have q4 : g.prods.length ≤ c3' := by omega
    have s5 := (((((s4.set 1 rfl 0 (.slice at' g.terms.length ct)).set 1 rfl 1 (.slice asn g.nons.length cs)).set 1 rfl 2 (.slice ai g.levels.length ci)).set 1 rfl 3 (.int .i64 g.start)).set 1 rfl 4 (.slice (some ⟨g3, 0, none⟩) g.prods.length c3')).old (Chg.refl noB _).drew
    have k1 : (g.terms.length : Int) ≤ ct := by omega
    simp -dsimp [go_sem, z3, y4, z4, q1, q2, q3, q4]
    refine hR _ ar (some ⟨g3, 0, none⟩) cr c3' vs ?_
    exact s5.pick [1, 2, 3, 4, 5, 6, 7] (by decide) rfl
theorem lend_b3 {w1 : World} (h1 : (rSlice rTerm).at1 w B (.slice A1 g.terms.length c1) g.terms) (h2 : (rSlice rStr).at1 w B (.slice A2 g.nons.length c2) g.nons) (h3 : (rSlice rInt).at1 w B (.slice A3 g.levels.length c3) g.levels) (h4 : (rSlice rPr).at1 w B (.slice A4 g.prods.length c4) g.prods) (hB : B ≤ w.heap.size) (hfit : GFitR g) {at' asn : Option Addr} {ct cs : Nat}
    (s : St noB w w1 (LnB q b g A1 A2 A3 A4 c1 c2 c3 c4 (.slice at' (g.terms.length + 1) ct) (.slice asn (g.nons.length + 1) cs) (.slice none 0 0) (.slice none 0 0) (.slice none 0 0) ++ [rowC 106 2 at' (g.terms.length + 1) ct (g.terms.flatMap xTerm ++ [Value.string sSpare, .int .i64 0]), rowC 9 1 asn (g.nons.length + 1) cs (g.nons.flatMap xStr ++ [Value.string sSpare])]))
    (hR : ∀ w' at' asn ai ar ap ct cs ci cr cp vs, St noB w w' (LgC b g at' asn ai ar ap ct cs ci cr cp vs) → R (.returned (.pointer (some ⟨b, 0, none⟩))) w') :
    law02_lend.b3 R (.pointer (some ⟨q, 0, none⟩)) (.pointer (some ⟨b, 0, none⟩)) w1 := by
  have hf : g.levels.length * 8 ≤ 140737488351232 := hfit.levels
  have y1 := s.box 0 rfl
  have z1 := s.box 1 rfl
  simp [boxAt] at y1 z1
  have sd := (s.old (Chg.refl noB _).drew).nilRow 3 1
  unfold law02_lend.b3
  simp -dsimp [go_sem, y1, z1]
  refine ⟨?_, ?_⟩
  · refine sd.appendRd (r := rInt) (enc := xInt) 4 rfl uInts iInt rfl (by decide) (Rep.below h3 (sd.chg.below hB fun _ _ => id)) (fun h _ => h.1) (fun x _ u hu => by simp [xInt] at hu; subst hu; rfl) (fun _ _ => rfl) (by unfold maxLen; omega) (by unfold maxBytes; omega) ?_
    intro a3 k3 w3 s3
    rw [Nat.zero_add] at s3
    simp -dsimp [go_sem]
    refine s3.append1 4 rfl uInts iInt rfl (by decide) (news := [Value.int .i64 77]) rfl (by simp [Value.oneCell']) (by unfold maxLen; omega) (by unfold maxBytes; omega) fun g4 k4 w4 s4 => ?_
    have z4 := s4.box 1 rfl
    simp [boxAt] at z4
    have s5 := s4.set 1 rfl 7 (.slice (some ⟨g4, 0, none⟩) (g.levels.length + 1) k4)
    simp -dsimp [go_sem, z4]
    exact lend_b6 h4 hB hfit (s5.pick [0, 1, 2, 3, 4] (by decide) rfl) fun w' ar ap cr cp vs hs => hR w' _ _ _ ar ap _ _ _ cr cp vs hs
  · have sb := sd.alloc #[Value.int .i64 77] 3
    have yb := sb.box 0 rfl
    have zb := sb.box 1 rfl
    simp only [boxAt] at yb zb
    obtain ⟨⟨yb0, yb1, yb2, _⟩, _⟩ := yb
    obtain ⟨⟨_, _, _, _, _, zb5, zb6, zb7, _⟩, _⟩ := zb
    have hd : (w1.alloc (.cells #[Value.int .i64 77] 3)).drew = (w1.drew).alloc (.cells #[Value.int .i64 77] 3) := rfl
    have ya : (w1.alloc (.cells #[Value.int .i64 77] 3)).cell? ⟨q, 2, none⟩ = some (.slice A3 g.levels.length c3) := yb2
    have za : (w1.alloc (.cells #[Value.int .i64 77] 3)).cell? ⟨b, 7, none⟩ = some (.slice none 0 0) := zb7
    try simp -dsimp [go_sem, ya, za]
    rw [hd]
    have hsz : w1.drew.heap.size = w1.heap.size := rfl
    rw [hsz] at sb
    clear yb0 yb1 yb2 zb5 zb6 zb7 ya za hd
    generalize (w1.drew).alloc (.cells #[Value.int .i64 77] 3) = w2 at sb ⊢
    generalize w1.heap.size = nb at sb ⊢
    refine sb.appendRd (r := rInt) (enc := xInt) 4 rfl uInts iInt rfl (by decide) (Rep.below h3 (sb.chg.below hB fun _ _ => id)) (fun h _ => h.1) (fun x _ u hu => by simp [xInt] at hu; subst hu; rfl) (fun _ _ => rfl) (by unfold maxLen; omega) (by unfold maxBytes; omega) ?_
    intro a3 k3 w3 s3
    rw [Nat.zero_add] at s3
    simp -dsimp [go_sem]
    refine s3.appendRd (r := rInt) (enc := xInt) (l := [(77 : Int)]) 4 rfl uInts iInt rfl (by decide) (s3.boxRd (enc := xInt) (l := [(77 : Int)]) 5 rfl rfl (fun x hx => by simp at hx; subst hx; exact ⟨rfl, by unfold inI64; decide⟩) (by decide)) (fun h _ => h.1) (fun x _ u hu => by simp [xInt] at hu; subst hu; rfl) (fun _ _ => rfl) (by unfold maxLen; simp only [List.length_cons, List.length_nil]; omega) (by unfold maxBytes; simp only [List.length_cons, List.length_nil]; omega) ?_
    intro a4 k4 w4 s4
    have s4 : St noB w w4 (LnB q b g A1 A2 A3 A4 c1 c2 c3 c4 (.slice at' (g.terms.length + 1) ct) (.slice asn (g.nons.length + 1) cs) (.slice none 0 0) (.slice none 0 0) (.slice none 0 0) ++ [rowC 106 2 at' (g.terms.length + 1) ct (g.terms.flatMap xTerm ++ [Value.string sSpare, .int .i64 0]), rowC 9 1 asn (g.nons.length + 1) cs (g.nons.flatMap xStr ++ [Value.string sSpare]), rowC 3 1 a4 (g.levels.length + 1) k4 (g.levels.flatMap xInt ++ [Value.int .i64 77])]) := s4.pick [0, 1, 2, 3, 4] (by decide) rfl
    have z4 := s4.box 1 rfl
    simp [boxAt] at z4
    have s5 := s4.set 1 rfl 7 (.slice a4 (g.levels.length + 1) k4)
    simp -dsimp [go_sem, z4]
    exact lend_b6 h4 hB hfit (s5.pick [0, 1, 2, 3, 4] (by decide) rfl) fun w' ar ap cr cp vs hs => hR w' _ _ _ ar ap _ _ _ cr cp vs hs
theorem lend_b2 {w1 : World} (h1 : (rSlice rTerm).at1 w B (.slice A1 g.terms.length c1) g.terms) (h2 : (rSlice rStr).at1 w B (.slice A2 g.nons.length c2) g.nons) (h3 : (rSlice rInt).at1 w B (.slice A3 g.levels.length c3) g.levels) (h4 : (rSlice rPr).at1 w B (.slice A4 g.prods.length c4) g.prods) (hB : B ≤ w.heap.size) (hfit : GFitR g) {at' : Option Addr} {ct : Nat}
    (s : St noB w w1 (LnB q b g A1 A2 A3 A4 c1 c2 c3 c4 (.slice at' (g.terms.length + 1) ct) (.slice none 0 0) (.slice none 0 0) (.slice none 0 0) (.slice none 0 0) ++ [rowC 106 2 at' (g.terms.length + 1) ct (g.terms.flatMap xTerm ++ [Value.string sSpare, .int .i64 0])]))
    (hR : ∀ w' at' asn ai ar ap ct cs ci cr cp vs, St noB w w' (LgC b g at' asn ai ar ap ct cs ci cr cp vs) → R (.returned (.pointer (some ⟨b, 0, none⟩))) w') :
    law02_lend.b2 R (.pointer (some ⟨q, 0, none⟩)) (.pointer (some ⟨b, 0, none⟩)) w1 := by
  have hf : g.nons.length * 16 ≤ 140737488351232 := hfit.nons
  have y1 := s.box 0 rfl
  have z1 := s.box 1 rfl
  simp [boxAt] at y1 z1
  have sd := (s.old (Chg.refl noB _).drew).nilRow 9 1
  unfold law02_lend.b2
  simp -dsimp [go_sem, y1, z1]
  refine ⟨?_, ?_⟩
  · refine sd.appendRd (r := rStr) (enc := xStr) 3 rfl uStrs iStr rfl (by decide) (Rep.below h2 (sd.chg.below hB fun _ _ => id)) (fun h _ => h.1) (fun x _ u hu => by simp [xStr] at hu; subst hu; rfl) (fun _ _ => rfl) (by unfold maxLen; omega) (by unfold maxBytes; omega) ?_
    intro a3 k3 w3 s3
    rw [Nat.zero_add] at s3
    simp -dsimp [go_sem]
    refine s3.append1 3 rfl uStrs iStr rfl (by decide) (news := [Value.string sSpare]) rfl (by simp [Value.oneCell']) (by unfold maxLen; omega) (by unfold maxBytes; omega) fun g4 k4 w4 s4 => ?_
    have z4 := s4.box 1 rfl
    simp [boxAt] at z4
    have s5 := s4.set 1 rfl 6 (.slice (some ⟨g4, 0, none⟩) (g.nons.length + 1) k4)
    simp -dsimp [go_sem, z4]
    exact lend_b3 h1 h2 h3 h4 hB hfit (s5.pick [0, 1, 2, 3] (by decide) rfl) hR
  · have sb := sd.alloc #[Value.string sSpare] 9
    have yb := sb.box 0 rfl
    have zb := sb.box 1 rfl
    simp only [boxAt] at yb zb
    obtain ⟨⟨yb0, yb1, yb2, _⟩, _⟩ := yb
    obtain ⟨⟨_, _, _, _, _, zb5, zb6, zb7, _⟩, _⟩ := zb
    have hd : (w1.alloc (.cells #[Value.string sSpare] 9)).drew = (w1.drew).alloc (.cells #[Value.string sSpare] 9) := rfl
    have ya : (w1.alloc (.cells #[Value.string sSpare] 9)).cell? ⟨q, 1, none⟩ = some (.slice A2 g.nons.length c2) := yb1
    have za : (w1.alloc (.cells #[Value.string sSpare] 9)).cell? ⟨b, 6, none⟩ = some (.slice none 0 0) := zb6
    try simp -dsimp [go_sem, ya, za]
    rw [hd]
    have hsz : w1.drew.heap.size = w1.heap.size := rfl
    rw [hsz] at sb
    clear yb0 yb1 yb2 zb5 zb6 zb7 ya za hd
    generalize (w1.drew).alloc (.cells #[Value.string sSpare] 9) = w2 at sb ⊢
    generalize w1.heap.size = nb at sb ⊢
    refine sb.appendRd (r := rStr) (enc := xStr) 3 rfl uStrs iStr rfl (by decide) (Rep.below h2 (sb.chg.below hB fun _ _ => id)) (fun h _ => h.1) (fun x _ u hu => by simp [xStr] at hu; subst hu; rfl) (fun _ _ => rfl) (by unfold maxLen; omega) (by unfold maxBytes; omega) ?_
    intro a3 k3 w3 s3
    rw [Nat.zero_add] at s3
    simp -dsimp [go_sem]
    refine s3.appendRd (r := rStr) (enc := xStr) (l := [sSpare]) 3 rfl uStrs iStr rfl (by decide) (s3.boxRd (enc := xStr) (l := [sSpare]) 4 rfl rfl (fun x hx => by simp at hx; subst hx; exact ⟨rfl, by decide⟩) (by decide)) (fun h _ => h.1) (fun x _ u hu => by simp [xStr] at hu; subst hu; rfl) (fun _ _ => rfl) (by unfold maxLen; simp only [List.length_cons, List.length_nil]; omega) (by unfold maxBytes; simp only [List.length_cons, List.length_nil]; omega) ?_
    intro a4 k4 w4 s4
    have s4 : St noB w w4 (LnB q b g A1 A2 A3 A4 c1 c2 c3 c4 (.slice at' (g.terms.length + 1) ct) (.slice none 0 0) (.slice none 0 0) (.slice none 0 0) (.slice none 0 0) ++ [rowC 106 2 at' (g.terms.length + 1) ct (g.terms.flatMap xTerm ++ [Value.string sSpare, .int .i64 0]), rowC 9 1 a4 (g.nons.length + 1) k4 (g.nons.flatMap xStr ++ [Value.string sSpare])]) := s4.pick [0, 1, 2, 3] (by decide) rfl
    have z4 := s4.box 1 rfl
    simp [boxAt] at z4
    have s5 := s4.set 1 rfl 6 (.slice a4 (g.nons.length + 1) k4)
    simp -dsimp [go_sem, z4]
    exact lend_b3 h1 h2 h3 h4 hB hfit (s5.pick [0, 1, 2, 3] (by decide) rfl) hR

end
theorem lend_ct {w : World} {B : Nat} {vg : Value} {g : Gr} (h : rGram.atN w B vg g) (hB : B ≤ w.heap.size) (hfit : GFitR g) : Ct Try.prog law02_lend.id #[vg] w fun v w' => ∃ b at' asn ai ar ap ct cs ci cr cp vs, v = .pointer (some ⟨b, 0, none⟩) ∧ St noB w w' (LgC b g at' asn ai ar ap ct cs ci cr cp vs) := by
  refine law02_lend.ct fun R hR => ?_
  obtain ⟨A1, c1, A2, c2, A3, c3, A4, c4, rfl, h1, h2, h3, hst, h4, k1, k2, k3, k4⟩ := (rGram_open h).ex
  have hR : ∀ w' b at' asn ai ar ap ct cs ci cr cp vs, St noB w w' (LgC b g at' asn ai ar ap ct cs ci cr cp vs) → R (.returned (.pointer (some ⟨b, 0, none⟩))) w' := fun w' b at' asn ai ar ap ct cs ci cr cp vs hs => hR _ _ ⟨b, at', asn, ai, ar, ap, ct, cs, ci, cr, cp, vs, rfl, hs⟩
  have s0 := ((St.refl noB w).alloc #[.slice A1 g.terms.length c1, .slice A2 g.nons.length c2, .slice A3 g.levels.length c3, .int .i64 g.start, .slice A4 g.prods.length c4] 27).alloc #[.slice none 0 0, .slice none 0 0, .slice none 0 0, .int .i64 0, .slice none 0 0, .slice none 0 0, .slice none 0 0, .slice none 0 0, .slice none 0 0, .slice none 0 0] 87
  have hsz : (w.alloc (.cells #[.slice A1 g.terms.length c1, .slice A2 g.nons.length c2, .slice A3 g.levels.length c3, .int .i64 g.start, .slice A4 g.prods.length c4] 27)).heap.size = w.heap.size + 1 := by simp
  have y0 := s0.box 0 rfl
  have z0 := s0.box 1 rfl
  rw [hsz] at z0
  simp only [boxAt] at y0 z0
  obtain ⟨⟨a0, _⟩, _⟩ := y0
  obtain ⟨⟨_, _, _, _, _, a5, _⟩, _⟩ := z0
  unfold law02_lend.run law02_lend.b1
  simp -dsimp [go_sem, a0, a5]
  rw [hsz] at s0
  clear a0 a5 hsz
  have hw1 : ((w.alloc (.cells #[.slice A1 g.terms.length c1, .slice A2 g.nons.length c2, .slice A3 g.levels.length c3, .int .i64 g.start, .slice A4 g.prods.length c4] 27)).alloc (.cells #[.slice none 0 0, .slice none 0 0, .slice none 0 0, .int .i64 0, .slice none 0 0, .slice none 0 0, .slice none 0 0, .slice none 0 0, .slice none 0 0, .slice none 0 0] 87)).heap.size = w.heap.size + 1 + 1 := by simp
  generalize ((w.alloc (.cells #[.slice A1 g.terms.length c1, .slice A2 g.nons.length c2, .slice A3 g.levels.length c3, .int .i64 g.start, .slice A4 g.prods.length c4] 27)).alloc (.cells #[.slice none 0 0, .slice none 0 0, .slice none 0 0, .int .i64 0, .slice none 0 0, .slice none 0 0, .slice none 0 0, .slice none 0 0, .slice none 0 0, .slice none 0 0] 87)) = w1 at s0 hw1 ⊢
  obtain ⟨q, hq⟩ : ∃ q, w.heap.size = q := ⟨_, rfl⟩
  rw [hq] at s0 hw1 ⊢
  obtain ⟨b, hb⟩ : ∃ b, q + 1 = b := ⟨_, rfl⟩
  rw [hb] at s0 hw1 ⊢
  have s : St noB w w1 (LnB q b g A1 A2 A3 A4 c1 c2 c3 c4 (.slice none 0 0) (.slice none 0 0) (.slice none 0 0) (.slice none 0 0) (.slice none 0 0) ++ []) := s0
  have hf : g.terms.length * 24 ≤ 140737488351232 := hfit.terms
  have sd := (s.old (Chg.refl noB _).drew).nilRow 106 2
  have hR := fun w' => hR w' b
  refine ⟨?_, ?_⟩
  · refine sd.appendRd (r := rTerm) (enc := xTerm) 2 rfl uTerms iTerm rfl (by decide) (Rep.below h1 (sd.chg.below hB fun _ _ => id)) (fun ⟨_, _, e, h2, h3⟩ _ => by obtain ⟨rfl, _⟩ := h2; obtain ⟨rfl, _⟩ := h3; exact e) (fun x _ u hu => by simp [xTerm] at hu; rcases hu with rfl | rfl <;> rfl) (fun _ _ => rfl) (by unfold maxLen; omega) (by unfold maxBytes; omega) ?_
    intro a3 k3 w3 s3
    rw [Nat.zero_add] at s3
    simp -dsimp [go_sem]
    refine s3.append1 2 rfl uTerms iTerm rfl (by decide) (news := [Value.string sSpare, .int .i64 0]) rfl (by simp [Value.oneCell']) (by unfold maxLen; omega) (by unfold maxBytes; omega) fun g4 k4 w4 s4 => ?_
    have z4 := s4.box 1 rfl
    simp [boxAt] at z4
    have s5 := s4.set 1 rfl 5 (.slice (some ⟨g4, 0, none⟩) (g.terms.length + 1) k4)
    simp -dsimp [go_sem, z4]
    exact lend_b2 h1 h2 h3 h4 hB hfit (s5.pick [0, 1, 2] (by decide) rfl) hR
  · have sb := sd.alloc #[Value.string sSpare, .int .i64 0] 106
    have yb := sb.box 0 rfl
    have zb := sb.box 1 rfl
    simp only [boxAt] at yb zb
    obtain ⟨⟨yb0, yb1, yb2, _⟩, _⟩ := yb
    obtain ⟨⟨_, _, _, _, _, zb5, zb6, zb7, _⟩, _⟩ := zb
    have hd : (w1.alloc (.cells #[Value.string sSpare, .int .i64 0] 106)).drew = (w1.drew).alloc (.cells #[Value.string sSpare, .int .i64 0] 106) := rfl
    have ya : (w1.alloc (.cells #[Value.string sSpare, .int .i64 0] 106)).cell? ⟨q, 0, none⟩ = some (.slice A1 g.terms.length c1) := yb0
    have za : (w1.alloc (.cells #[Value.string sSpare, .int .i64 0] 106)).cell? ⟨b, 5, none⟩ = some (.slice none 0 0) := zb5
    try simp -dsimp [go_sem, ya, za]
    rw [← hw1]
    rw [hd]
    have hsz : w1.drew.heap.size = w1.heap.size := rfl
    rw [hsz] at sb
    clear yb0 yb1 yb2 zb5 zb6 zb7 ya za hd
    generalize (w1.drew).alloc (.cells #[Value.string sSpare, .int .i64 0] 106) = w2 at sb ⊢
    generalize w1.heap.size = nb at sb ⊢
    refine sb.appendRd (r := rTerm) (enc := xTerm) 2 rfl uTerms iTerm rfl (by decide) (Rep.below h1 (sb.chg.below hB fun _ _ => id)) (fun ⟨_, _, e, h2, h3⟩ _ => by obtain ⟨rfl, _⟩ := h2; obtain ⟨rfl, _⟩ := h3; exact e) (fun x _ u hu => by simp [xTerm] at hu; rcases hu with rfl | rfl <;> rfl) (fun _ _ => rfl) (by unfold maxLen; omega) (by unfold maxBytes; omega) ?_
    intro a3 k3 w3 s3
    rw [Nat.zero_add] at s3
    simp -dsimp [go_sem]
    refine s3.appendRd (r := rTerm) (enc := xTerm) (l := [(sSpare, 0)]) 2 rfl uTerms iTerm rfl (by decide) (s3.boxRd (enc := xTerm) (l := [(sSpare, 0)]) 3 rfl rfl (fun x hx => by simp at hx; subst hx; exact ⟨[_], [_], rfl, ⟨rfl, by decide⟩, ⟨rfl, by unfold inI64; decide⟩⟩) (by decide)) (fun ⟨_, _, e, h2, h3⟩ _ => by obtain ⟨rfl, _⟩ := h2; obtain ⟨rfl, _⟩ := h3; exact e) (fun x _ u hu => by simp [xTerm] at hu; rcases hu with rfl | rfl <;> rfl) (fun _ _ => rfl) (by unfold maxLen; simp only [List.length_cons, List.length_nil]; omega) (by unfold maxBytes; simp only [List.length_cons, List.length_nil]; omega) ?_
    intro a4 k4 w4 s4
    have s4 : St noB w w4 (LnB q b g A1 A2 A3 A4 c1 c2 c3 c4 (.slice none 0 0) (.slice none 0 0) (.slice none 0 0) (.slice none 0 0) (.slice none 0 0) ++ [rowC 106 2 a4 (g.terms.length + 1) k4 (g.terms.flatMap xTerm ++ [Value.string sSpare, .int .i64 0])]) := s4.pick [0, 1, 2] (by decide) rfl
    have z4 := s4.box 1 rfl
    simp [boxAt] at z4
    have s5 := s4.set 1 rfl 5 (.slice a4 (g.terms.length + 1) k4)
    simp -dsimp [go_sem, z4]
    exact lend_b2 h1 h2 h3 h4 hB hfit (s5.pick [0, 1, 2] (by decide) rfl) hR
end Go.Proofs.Ytkacbjhiobnbfaa

