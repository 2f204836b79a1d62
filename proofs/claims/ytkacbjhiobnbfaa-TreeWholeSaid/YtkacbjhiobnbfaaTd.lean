/-
  Texts of this claim: Rt1, Rt2, Rt3, Rt3b.
-/
import Derived.Test.YtkacbjhiobnbfaaMi
import Derived.Test.YtkacbjhiobnbfaaGh
import Derived.Test.YtkacbjhiobnbfaaTb
import Derived.Test.YtkacbjhiobnbfaaMj
import Derived.Test.YtkacbjhiobnbfaaTa
/-
  The document's trees: lists alike, nodes alike, a copy.
-/
namespace Go.Px.Scan
open Go.Px Go.RowKit
def cNdI (x : Int) : List Value := [.int .i64 x]
def cNd (p : Nd × Value) : List Value := [.int .i64 p.1.1, .int .i64 p.1.2.1, .int .i64 p.1.2.2.1, p.2]
/-- Numbers that a machine's int has. -/
def ndIn (l : List Nd) : Prop := ∀ x ∈ l, inI64 x.1 ∧ inI64 x.2.1 ∧ inI64 x.2.2.1 ∧ ∀ k ∈ x.2.2.2, inI64 k
theorem ndIn_of {w : World} {B : Nat} {v : Value} {l : List Nd} (h : (rSlice rNd).at1 w B v l) : ndIn l := by
  intro x hx
  obtain ⟨i, hi, rfl⟩ := List.getElem_of_mem hx
  obtain ⟨A, c, rfl, _⟩ := slice_form h
  obtain ⟨b, o, v, _, _, _, _, _, _, hr, h1, h2, h3⟩ := nodes_at h hi
  refine ⟨h1, h2, h3, fun k hk => ?_⟩
  obtain ⟨j, hj, rfl⟩ := List.getElem_of_mem hk
  obtain ⟨A', c', rfl, _⟩ := slice_form hr
  obtain ⟨_, _, _, _, _, q⟩ := Go.Px.ints_at hr hj
  exact q
/-- Nodes in memory of their own. -/
def ndC (a : Option Addr) (c : Nat) (vs : List Value) (l : List Nd) : List Ch := [rowC 61 4 a l.length c ((l.zip vs).flatMap cNd), rowsC 3 1 vs (l.map fun x => x.2.2.2.flatMap cNdI)]
theorem cNdI_flat (l : List Int) : l.flatMap cNdI = l.map (.int .i64 ·) := by induction l with
  | nil => rfl
  | cons x r ih => rw [List.flatMap_cons, ih]; rfl
theorem ndC_rd {w : World} {B : Nat} {a : Option Addr} {c : Nat} {vs : List Value} {l : List Nd} {F F' : Nat → Prop} (h1 : (rowC 61 4 a l.length c ((l.zip vs).flatMap cNd)).ok w F) (h2 : (rowsC 3 1 vs (l.map fun x => x.2.2.2.flatMap cNdI)).ok w F') (hl : ndIn l) (hB : w.heap.size ≤ B) :
    (rSlice rNd).at1 w B (.slice a l.length c) l := by
  have hvs : vs.length = l.length := by have := h2.1; simpa using this
  refine row_reads (r := rNd) (enc := cNd) (m := l.zip vs) h1 (fun _ _ => rfl) (by decide) (by simp [hvs]) rfl (fun i x y hx hy => ?_) hB
  obtain ⟨hi, rfl⟩ := List.getElem?_eq_some_iff.1 hy
  obtain ⟨hx1, hx2⟩ := List.getElem?_zip_eq_some.1 hx
  rw [hy] at hx1
  injection hx1 with hx1
  obtain ⟨q1, q2, q3, q4⟩ := hl _ (List.getElem_mem hi)
  obtain ⟨a', n', c', hv', hrow⟩ := h2.2 i x.2 _ hx2 (by rw [List.getElem?_map, List.getElem?_eq_getElem hi]; rfl)
  have hn' : n' = l[i].2.2.2.length := by
    have := (row_size hrow).1
    dsimp only at this
    rw [cNdI_flat, List.length_map] at this; omega
  subst hn'
  have hrd := row_reads (r := rInt) (B := B) hrow (fun _ _ => rfl) (by decide) rfl rfl (fun j x y hx hy => by
    rw [hx] at hy; injection hy with hy; subst hy
    exact ⟨rfl, q4 _ (List.mem_of_getElem? hx)⟩) hB
  rw [← hv'] at hrd
  refine ⟨[.int .i64 l[i].1], [.int .i64 l[i].2.1, .int .i64 l[i].2.2.1, x.2], by simp only [cNd, ← hx1]; rfl, ⟨rfl, q1⟩, [.int .i64 l[i].2.1], [.int .i64 l[i].2.2.1, x.2], rfl, ⟨rfl, q2⟩, [.int .i64 l[i].2.2.1], [x.2], rfl, ⟨rfl, q3⟩, hrd⟩
end Go.Px.Scan
namespace Go.Proofs.Ytkacbjhiobnbfaa
open Go.Px Go.Px.Scan Go.RowKit
set_option maxHeartbeats 1000000
set_option linter.unusedSimpArgs false
set_option linter.unusedVariables false
set_option maxRecDepth 100000
attribute [-go_sem] Builtin.append_ ref20_Same.b11

theorem Ints_ct {w : World} {B : Nat} {va vb : Value} {a b : List Int} (ha : (rSlice rInt).at1 w B va a) (hb : (rSlice rInt).at1 w B vb b) (hB : B ≤ w.heap.size) :
    Ct Try.prog ref01_Ints.id #[va, vb] w fun v w' => v = .bool (decide (a = b)) ∧ Chg noB w w' := by
  obtain ⟨A1, c1, rfl, hl1, hm1, _⟩ := slice_form ha
  obtain ⟨A2, c2, rfl, hl2, hm2, _⟩ := slice_form hb
  refine ref01_Ints.ct fun R hR => ?_
  unfold ref01_Ints.run
  simp -dsimp [go_sem]
  refine SPL_intro (fun h => ?_) (fun h => ?_) <;> simp at h
  · exact hR _ _ ⟨by rw [decide_eq_false]; rintro rfl; exact h rfl, Chg.refl _ _⟩
  have hlen : a.length = b.length := by omega
  simp -dsimp [go_sem]
  refine ref01_Ints.l6_intro _ _ _ _ _ (fun x w1 => ∃ k : Nat, x = .int .i64 k ∧ k ≤ a.length ∧ a.take k = b.take k ∧ Chg noB w w1) (fun x _ => a.length - iv x) ⟨0, rfl, by omega, rfl, Chg.refl _ _⟩ ?_
  rintro _ w1 ⟨k, rfl, hk, hall, hbw⟩ C hC
  simp -dsimp [go_sem]
  refine SPL_intro (fun h => ?_) (fun h => ?_) <;> simp at h
  · have hka : k < a.length := h
    have hkb : k < b.length := by omega
    have bl : Below B w w1 := hbw.below hB fun _ _ => id
    obtain ⟨b1, o1, rfl, hb1, hc1, hr1⟩ := Go.Px.ints_at (Rep.below ha bl) hka
    obtain ⟨b2, o2, rfl, hb2, hc2, hr2⟩ := Go.Px.ints_at (Rep.below hb bl) hkb
    have wk := wrap_succ hka (Nat.le_trans hl1 hm1)
    simp -dsimp [go_sem, hka, hkb, hc1, hc2]
    refine SPL_intro (fun h => ?_) (fun h => ?_) <;> simp at h
    · exact hR _ _ ⟨by rw [decide_eq_false]; rintro rfl; exact h rfl, hbw.drew⟩
    · simp -dsimp [go_sem, wk]
      refine hC _ _ ⟨k + 1, by simp, by omega, ?_, hbw.drew⟩ (by simp [iv]; omega)
      rw [List.take_succ_eq_append_getElem hka, List.take_succ_eq_append_getElem hkb, hall, h]
  · have hka : k = a.length := by omega
    simp -dsimp [go_sem]
    refine hR _ _ ⟨?_, hbw⟩
    rw [hka, List.take_length, hlen, List.take_length] at hall
    rw [decide_eq_true hall]

theorem refNdSame_ct {w : World} {B : Nat} {va vb : Value} {a b : List Nd} (ha : (rSlice rNd).at1 w B va a) (hb : (rSlice rNd).at1 w B vb b) (hB : B ≤ w.heap.size) :
    Ct Try.prog ref20_Same.id #[va, vb] w fun v w' => v = .bool (decide (a = b)) ∧ Chg noB w w' := by
  obtain ⟨A1, c1, rfl, hl1, hm1, _⟩ := slice_form ha
  obtain ⟨A2, c2, rfl, hl2, hm2, _⟩ := slice_form hb
  refine ref20_Same.ct fun R hR => ?_
  unfold ref20_Same.run
  simp -dsimp [go_sem]
  refine SPL_intro (fun h => ?_) (fun h => ?_) <;> simp at h
  · exact hR _ _ ⟨by rw [decide_eq_false]; rintro rfl; exact h rfl, Chg.refl _ _⟩
  have hlen : a.length = b.length := by omega
  simp -dsimp [go_sem]
  refine ref20_Same.l6_intro _ _ _ _ _ (fun x w1 => ∃ k : Nat, x = .int .i64 k ∧ k ≤ a.length ∧ a.take k = b.take k ∧ Chg noB w w1) (fun x _ => a.length - iv x) ⟨0, rfl, by omega, rfl, Chg.refl _ _⟩ ?_
  rintro _ w1 ⟨k, rfl, hk, hall, hbw⟩ C hC
  simp -dsimp [go_sem]
  refine SPL_intro (fun h => ?_) (fun h => ?_) <;> simp at h
  · have hka : k < a.length := h
    have hkb : k < b.length := by omega
    have bl : Below B w w1 := hbw.below hB fun _ _ => id
    obtain ⟨b1, o1, v1, rfl, hb1, x1, x2, x3, x4, xr, _⟩ := nodes_at (Rep.below ha bl) hka
    obtain ⟨b2, o2, v2, rfl, hb2, y1, y2, y3, y4, yr, _⟩ := nodes_at (Rep.below hb bl) hkb
    have wk := wrap_succ hka (Nat.le_trans hl1 hm1)
    have hno : ∀ w', a[k] ≠ b[k] → Chg noB w w' → ref20_Same.b12 R C (.int .i64 (k : Int)) (.bool true) w' := fun w' hne hc => by
      unfold ref20_Same.b12
      simp -dsimp [go_sem]
      exact hR _ _ ⟨by rw [decide_eq_false]; rintro rfl; exact hne rfl, hc⟩
    unfold ref20_Same.b11
    simp -dsimp [go_sem, hka, hkb, x1, y1]
    refine SPL_intro (fun h => ?_) (fun h => ?_) <;> simp at h
    · exact hno _ (fun e => h (by rw [e])) hbw.drew
    simp -dsimp [go_sem, hka, hkb, x2, y2]
    refine SPL_intro (fun h2 => ?_) (fun h2 => ?_) <;> simp at h2
    · exact hno _ (fun e => h2 (by rw [e])) hbw.drew
    simp -dsimp [go_sem, hka, hkb, x3, y3]
    refine SPL_intro (fun h3 => ?_) (fun h3 => ?_) <;> simp at h3
    · exact hno _ (fun e => h3 (by rw [e])) hbw.drew
    simp -dsimp [go_sem, hka, hkb, x4, y4]
    have bd : Below B w1 w1.drew := (Chg.refl noB w1).drew.below (by have := hbw.size; omega) fun _ _ => id
    refine CALL_of (Ints_ct (Rep.below xr bd) (Rep.below yr bd) (by have := hbw.drew.size; omega)) ?_
    rintro _ w2 ⟨rfl, hc2⟩
    simp -dsimp [go_sem]
    refine SPL_intro (fun h4 => ?_) (fun h4 => ?_) <;> simp at h4
    · exact hR _ _ ⟨by rw [decide_eq_false]; rintro rfl; exact h4 rfl, hbw.drew.trans hc2⟩
    · simp -dsimp [go_sem, wk]
      refine hC _ _ ⟨k + 1, by simp, by omega, ?_, hbw.drew.trans hc2⟩ (by simp [iv]; omega)
      have e : a[k] = b[k] := Prod.ext h (Prod.ext h2 (Prod.ext h3 h4))
      rw [List.take_succ_eq_append_getElem hka, List.take_succ_eq_append_getElem hkb, hall, e]
  · have hka : k = a.length := by omega
    simp -dsimp [go_sem]
    refine hR _ _ ⟨?_, hbw⟩
    rw [hka, List.take_length, hlen, List.take_length] at hall
    rw [decide_eq_true hall]

theorem uNds : Try.prog.underlying 49 = some (.slice 61) := Try.underlying49
theorem iNd : (Try.prog.info? 61).map (fun i => (i.zero, i.size, i.bytes)) = some (some (.agg #[.int .i64 0, .int .i64 0, .int .i64 0, .slice none 0 0]), 4, 48) := by kernel_rfl
attribute [-go_sem] ref20_Copy.b7_1
theorem refNdCopy_ct {w : World} {B : Nat} {nv : Value} {l : List Nd} (h : (rSlice rNd).at1 w B nv l) (hB : B ≤ w.heap.size) (hN : l.length * 48 ≤ maxBytes) (hkd : ∀ x ∈ l, x.2.2.2.length * 8 ≤ maxBytes) :
    Ct Try.prog ref20_Copy.id #[nv] w fun v w' => ∃ a c vs, v = .slice a l.length c ∧ St noB w w' (ndC a c vs l) := by
  refine ref20_Copy.ct fun R hR => ?_
  obtain ⟨A, c, rfl, hl1, hl2, _⟩ := slice_form h
  have hln : l.length ≤ 3000000000000 := by unfold maxBytes at hN; omega
  unfold ref20_Copy.run
  simp -dsimp [go_sem]
  have s0 : St noB w w [rowC 61 4 none 0 0 ([] : List Value), rowsC 3 1 [] []] := ((St.refl noB w).nilRow 61 4).push (c := rowsC 3 1 [] []) ⟨rfl, fun i v xs h => by simp at h⟩
  refine ref20_Copy.l6_intro _ _ _ _ _ (fun y z w' => ∃ (k : Nat) (a : Option Addr) (ca : Nat) (vs : List Value), y = .slice a k ca ∧ z = .int .i64 k ∧ k ≤ l.length ∧ St noB w w' [rowC 61 4 a k ca (((l.take k).zip vs).flatMap cNd), rowsC 3 1 vs ((l.take k).map fun x => x.2.2.2.flatMap cNdI)]) (fun _ z _ => l.length - iv z) ⟨0, none, 0, [], rfl, rfl, by omega, s0⟩ ?_
  rintro _ _ w1 ⟨k, a, ca, vs, rfl, rfl, hk, s1⟩ C hC
  simp -dsimp [go_sem]
  refine SPL_intro (fun p1 => ?_) (fun p1 => ?_) <;> simp at p1
  · have wk := wrap_succ p1 (by omega)
    have hvs : vs.length = k := by
      obtain ⟨F, ho, _⟩ := s1.get (k := 1) rfl
      have := ho.1; simp at this; omega
    obtain ⟨bp, op, vr, ep, hbp, x1, x2, x3, x4, hr, z1, z2, z3⟩ := nodes_at (Rep.below h (s1.chg.below hB fun _ _ => id)) p1
    subst ep
    obtain ⟨Ar, cr, rfl, hr1, hr2, _⟩ := slice_form hr
    have hk8 := hkd _ (List.getElem_mem p1)
    have htk : l.take (k + 1) = l.take k ++ [l[k]] := List.take_succ_eq_append_getElem p1
    obtain ⟨x, hx⟩ : ∃ x, l[k] = x := ⟨_, rfl⟩
    rw [hx] at x1 x2 x3 x4 hr hr1 hk8 htk
    have hbp1 : bp < w1.heap.size := by have := s1.chg.size; omega
    unfold ref20_Copy.b7_1
    obtain ⟨q, hq⟩ : ∃ q, w1.heap.size = q := ⟨_, rfl⟩
    have s2 := s1.alloc #[.int .i64 x.1, .int .i64 x.2.1, .int .i64 x.2.2.1, .slice Ar x.2.2.2.length cr] 61
    rw [hq] at s2
    have hq2 : (w1.alloc (.cells #[.int .i64 x.1, .int .i64 x.2.1, .int .i64 x.2.2.1, .slice Ar x.2.2.2.length cr] 61)).heap.size = q + 1 := by simp [hq]
    have s3 := s2.lit 3 1 0 #[] (by simp) (by simp)
    rw [hq2] at s3
    have c3 : Chg noB w1 ((w1.alloc (.cells #[.int .i64 x.1, .int .i64 x.2.1, .int .i64 x.2.2.1, .slice Ar x.2.2.2.length cr] 61)).alloc (.cells #[] 3)) := ((Chg.refl noB w1).alloc _).alloc _
    have x4' := (c3.cell (p := ⟨bp, op + k * 4 + 3, none⟩) hbp1 id).trans x4
    have hqh : (w1.alloc (.cells #[.int .i64 x.1, .int .i64 x.2.1, .int .i64 x.2.2.1, .slice Ar x.2.2.2.length cr] 61)).heap[q]? = some (.cells #[.int .i64 x.1, .int .i64 x.2.1, .int .i64 x.2.2.1, .slice Ar x.2.2.2.length cr] 61 (0, 0)) := by rw [← hq]; exact World.alloc_heap_new w1 _
    simp -dsimp [go_sem, p1, x1, x2, x3, x4, hq, hq2, x4']
    generalize (w1.alloc (.cells #[.int .i64 x.1, .int .i64 x.2.1, .int .i64 x.2.2.1, .slice Ar x.2.2.2.length cr] 61)).alloc (.cells #[] 3) = w3 at s3 c3 ⊢
    refine s3.appendRd (r := rInt) (enc := cNdI) 3 rfl uInts iInt rfl (by decide) (Rep.below hr (c3.below (by have := s1.chg.size; omega) fun _ _ => id)) (fun h _ => h.1) (fun x _ u hu => by simp [cNdI] at hu; subst hu; rfl) (fun _ _ => rfl) (by unfold maxLen; unfold maxBytes at hk8; omega) (by omega) ?_
    intro a5 c5 w5 s5
    rw [Nat.zero_add] at s5 ⊢
    have y5 := s5.box 2 rfl
    simp [boxAt] at y5
    have s6 := s5.set 2 rfl 3 (.slice a5 x.2.2.2.length c5)
    have y6 := s6.box 2 rfl
    simp [boxAt] at y6
    simp -dsimp [go_sem, y5, y6]
    have hsz6 : (w5.setCell ⟨q, 3, none⟩ (.slice a5 x.2.2.2.length c5)).heap.size = w5.heap.size := by simp
    rw [← hsz6]
    generalize w5.setCell ⟨q, 3, none⟩ (.slice a5 x.2.2.2.length c5) = w6 at s6 ⊢
    refine s6.append1 0 rfl uNds iNd rfl (by omega) (news := [.int .i64 x.1, .int .i64 x.2.1, .int .i64 x.2.2.1, .slice a5 x.2.2.2.length c5]) rfl (by simp [Value.oneCell']) (by unfold maxLen; omega) (by omega) ?_
    intro g' cap w7 s7
    simp -dsimp [go_sem, wk]
    have s8 := s7.merge (j := 3) (k := 1) rfl rfl (by omega) (e := rowsC 3 1 (vs ++ [.slice a5 x.2.2.2.length c5]) (((l.take k).map fun x => x.2.2.2.flatMap cNdI) ++ [x.2.2.2.flatMap cNdI])) fun F F' h1 h2 => rowsC_snoc (size := 1) h1 h2
    have e2 : (((l.take (k + 1)).zip (vs ++ [.slice a5 x.2.2.2.length c5])).flatMap cNd) = (((l.take k).zip vs).flatMap cNd) ++ [.int .i64 x.1, .int .i64 x.2.1, .int .i64 x.2.2.1, .slice a5 x.2.2.2.length c5] := by
      rw [htk, List.zip_append (by simp [hvs]; omega), List.flatMap_append]
      simp [cNd]
    have e3 : ((l.take (k + 1)).map fun x => x.2.2.2.flatMap cNdI) = ((l.take k).map fun x => x.2.2.2.flatMap cNdI) ++ [x.2.2.2.flatMap cNdI] := by rw [htk, List.map_append]; rfl
    refine hC _ _ _ ⟨k + 1, some ⟨g', 0, none⟩, cap, vs ++ [.slice a5 x.2.2.2.length c5], rfl, by simp, by omega, ?_⟩ (by simp [iv]; omega)
    have := s8.take 2
    rw [← e2, ← e3] at this
    exact this
  · have hkl : k = l.length := by omega
    subst hkl
    simp -dsimp [go_sem]
    rw [List.take_length] at s1
    exact hR _ _ ⟨a, ca, vs, rfl, s1⟩
/-- A copy reads as the nodes do. -/
theorem ndC_at {G : Nat → Prop} {W w : World} {L : List Ch} {a : Option Addr} {c : Nat} {vs : List Value} {l : List Nd} (h : St G W w L) (k j : Nat) (hk : L[k]? = some (rowC 61 4 a l.length c ((l.zip vs).flatMap cNd))) (hj : L[j]? = some (rowsC 3 1 vs (l.map fun x => x.2.2.2.flatMap cNdI))) (hl : ndIn l) :
    (rSlice rNd).at1 w w.heap.size (.slice a l.length c) l := by
  obtain ⟨F, h1, _⟩ := h.get hk
  obtain ⟨F', h2, _⟩ := h.get hj
  exact ndC_rd h1 h2 hl (Nat.le_refl _)
end Go.Proofs.Ytkacbjhiobnbfaa

/-
  The document's Walk.
-/
namespace Go.Px.Scan
open Go.Px Go.RowKit
/-- What the document's Walk works with. -/
def RW (m N : Nat) (met : List Nat) (a : Option Addr) (cw : Nat) (ws : List Nat) (ao : Option Addr) (co : Nat) (out : List Nat) (q : Nat) (bs : List Value) : List Ch :=
  [rowC 4 1 (some ⟨m, 0, none⟩) N N (metV N met), rowC 3 1 a ws.length cw (natV ws.reverse), rowC 3 1 ao out.length co (natV out), boxC q 61 bs]
def kidsOk (n : Nat) (met : List Nat) (ks : List Int) : Prop := (∀ k ∈ ks, 0 ≤ k ∧ k < n) ∧ freshN met (ks.map Int.toNat)
def slen : Value → Nat | .slice _ n _ => n | _ => 0
end Go.Px.Scan
namespace Go.Proofs.Ytkacbjhiobnbfaa
open Go.Px Go.Px.Scan Go.RowKit
set_option maxHeartbeats 1000000
set_option linter.unusedSimpArgs false
set_option linter.unusedVariables false
set_option maxRecDepth 100000
attribute [-go_sem] Builtin.append_ ref20_Walk.b13 ref20_Walk.b22 ref20_Walk.b35 ref20_Walk.b34 ref20_Walk.b3 ref20_Walk.b37 ref20_Walk.b33 ref20_Walk.b32 ref20_Walk.b21 ref20_Walk.b10

theorem met_loop {W w1 : World} {B m N n q : Nat} {met ws out : List Nat} {a ao : Option Addr} {cw co cr : Nat} {Ar : Option Addr} {v1 v2 v3 x2 x9 x10 : Value} {ks : List Int} {R : Ending → World → Prop} {C7 : Value → Value → World → Prop}
    (s : St noB W w1 (RW m N met a cw ws ao co out q [v1, v2, v3, .slice Ar ks.length cr])) (hkr : (rSlice rInt).at1 W B (.slice Ar ks.length cr) ks) (hB : B ≤ W.heap.size) (hn : n < N)
    (hno : ∀ w', ¬ kidsOk n met ks → Chg noB W w' → R (.returned (.tuple #[.slice none 0 0, .bool false])) w')
    (hyes : kidsOk n met ks → ∀ w', St noB W w' (RW m N (kidsN (0, 0, 0, ks) ++ met) a cw ws ao co out q [v1, v2, v3, .slice Ar ks.length cr]) → ref20_Walk.b13 R C7 x2 x9 x10 (.pointer (some ⟨q, 0, none⟩)) w') :
    ref20_Walk.b22 R C7 x2 (.slice (some ⟨m, 0, none⟩) N N) x9 x10 (.int .i64 n) (.pointer (some ⟨q, 0, none⟩)) w1 := by
  obtain ⟨_, _, e0, hkl, hkm, _⟩ := slice_form hkr
  injection e0 with e1 e2 e3; subst e1 e3
  have hkm : ks.length ≤ maxLen := by omega
  unfold ref20_Walk.b22
  refine ref20_Walk.l24_intro _ _ _ _ _ _ _ _ _ _ (fun y w' => ∃ i : Nat, y = .int .i64 i ∧ i ≤ ks.length ∧ kidsOk n met (ks.take i) ∧ St noB W w' (RW m N ((ks.take i).map Int.toNat ++ met) a cw ws ao co out q [v1, v2, v3, .slice Ar ks.length cr])) (fun y _ => ks.length - iv y) ⟨0, rfl, by omega, by simp [kidsOk, freshN], by simpa using s⟩ ?_
  rintro _ w2 ⟨i, rfl, hi, ⟨hr0, hf⟩, s2⟩ C hC
  have y2 := s2.box 3 rfl
  simp [boxAt] at y2
  simp -dsimp [go_sem, y2]
  refine SPL_intro (fun p1 => ?_) (fun p1 => ?_) <;> simp at p1
  · have wi : IntKind.i64.wrap ((i : Int) + 1) = (i : Int) + 1 := wrap_succ (n := ks.length) (by omega) hkm
    obtain ⟨g, o, rfl, hgb, ck, hkin⟩ := Go.Px.ints_at (Rep.below hkr (s2.chg.below hB fun _ _ => id)) p1
    obtain ⟨k, hk⟩ : ∃ k, ks[i] = k := ⟨_, rfl⟩
    rw [hk] at ck
    have et : ks.take (i + 1) = ks.take i ++ [k] := by rw [List.take_succ_eq_append_getElem p1, hk]
    have hbad : ∀ w', ¬ kidsOk n met ks → Chg noB W w' → ref20_Walk.b33 R C7 C (.slice (some ⟨m, 0, none⟩) N N) (.int .i64 i) (.int .i64 k) (.bool true) w' := fun w' h1 h2 => by
      unfold ref20_Walk.b33
      simp -dsimp [go_sem]
      exact hno w' h1 h2
    have hkm2 : k ∈ ks := hk ▸ List.getElem_mem p1
    simp -dsimp [go_sem, y2, p1, ck]
    unfold ref20_Walk.b32
    simp -dsimp [go_sem]
    refine SPL_intro (fun p2 => ?_) (fun p2 => ?_) <;> simp at p2
    · exact hbad _ (fun h => by have := h.1 k hkm2; omega) s2.chg
    simp -dsimp [go_sem]
    refine SPL_intro (fun p3 => ?_) (fun p3 => ?_) <;> simp at p3
    · exact hbad _ (fun h => by have := h.1 k hkm2; omega) s2.chg
    obtain ⟨j, rfl⟩ : ∃ j : Nat, k = j := ⟨k.toNat, by omega⟩
    have hjN : j < N := by omega
    obtain ⟨met1, hmet1⟩ : ∃ met1, (ks.take i).map Int.toNat ++ met = met1 := ⟨_, rfl⟩
    rw [hmet1] at s2
    obtain ⟨gm, em, cm, fm⟩ := s2.rowAt 0 rfl (j := j) (by rw [metV_len]; exact hjN)
    injection em with em; injection em with em; subst em
    have cmv : (metV N met1)[j]'(by rw [metV_len]; exact hjN) = .bool (decide (j ∈ met1)) := by
      have := metV_get (met := met1) hjN
      rw [List.getElem?_eq_getElem (by rw [metV_len]; exact hjN)] at this
      injection this
    rw [cmv] at cm
    have hmi : (ks.map Int.toNat)[i]'(by simpa using p1) = j := by simp [hk]
    have htm : (ks.map Int.toNat).take i = (ks.take i).map Int.toNat := by simp
    simp -dsimp [go_sem, hjN, cm]
    unfold ref20_Walk.b33
    refine SPL_intro (fun p4 => ?_) (fun p4 => ?_)
    · have hin : j ∈ met1 := by simpa using p4
      refine hno _ (fun h => fresh_not (ks := ks.map Int.toNat) (i := i) (by simpa using p1) ?_ h.2) s2.chg
      rw [hmi, htm, hmet1]; exact hin
    · have hnin : j ∉ met1 := by simpa using p4
      have hf2 : freshN met ((ks.take (i + 1)).map Int.toNat) := by
        have := fresh_take (met := met) (ks := ks.map Int.toNat) (i := i) (by rw [htm]; exact hf) (by simpa using p1) (by rw [hmi, htm, hmet1]; exact hnin)
        simpa using this
      have s3 := s2.setRow 0 rfl j (.bool true)
      rw [metV_set] at s3
      simp -dsimp [go_sem, hjN, cm, fm, wi]
      refine hC _ _ ⟨i + 1, by simp, by omega, ⟨fun x hx => ?_, hf2⟩, ?_⟩ (by simp [iv]; omega)
      · rw [et] at hx
        rcases List.mem_append.1 hx with hx | hx
        · exact hr0 x hx
        · simp at hx; subst hx; omega
      · have e2 : metV N ((ks.take (i + 1)).map Int.toNat ++ met) = metV N (j :: met1) := metV_congr fun x => by rw [et, ← hmet1]; simp; exact or_left_comm
        unfold RW
        rw [e2]
        exact s3
  · have hik : i = ks.length := by omega
    subst hik
    rw [List.take_length] at hr0 hf s2
    exact hyes ⟨hr0, hf⟩ _ s2

theorem push_loop {W w1 : World} {B m N q : Nat} {met ws out : List Nat} {a ao : Option Addr} {cw co cr : Nat} {Ar : Option Addr} {v1 v2 v3 x10 : Value} {rt : Bool} {ks : List Int} {R : Ending → World → Prop} {C7 : Value → Value → World → Prop}
    (s : St noB W w1 (RW m N met a cw ws ao co out q [v1, v2, v3, .slice Ar ks.length cr])) (hkr : (rSlice rInt).at1 W B (.slice Ar ks.length cr) ks) (hB : B ≤ W.heap.size) (h0 : ∀ k ∈ ks, 0 ≤ k) (hN : N ≤ 3000000000000) (hl : ks.length + ws.length ≤ N)
    (hC : ∀ a' cw' w', St noB W w' (RW m N met a' cw' (nextW rt (0, 0, 0, ks) ws) ao co out q [v1, v2, v3, .slice Ar ks.length cr]) → C7 (.slice a' (nextW rt (0, 0, 0, ks) ws).length cw') x10 w') :
    ref20_Walk.b13 R C7 (.bool rt) (.slice a ws.length cw) x10 (.pointer (some ⟨q, 0, none⟩)) w1 := by
  obtain ⟨_, _, e0, hkl, hkm, _⟩ := slice_form hkr
  injection e0 with e1 e2 e3; subst e1 e3
  obtain ⟨kk, hkk⟩ : ∃ kk, (if rt then kidsN (0, 0, 0, ks) else (kidsN (0, 0, 0, ks)).reverse) = kk := ⟨_, rfl⟩
  have hkkl : kk.length = ks.length := by rw [← hkk]; cases rt <;> simp [kidsN]
  have hnx : nextW rt (0, 0, 0, ks) ws = kk.reverse ++ ws := by unfold nextW; rw [← hkk]; cases rt <;> simp
  rw [hnx] at hC
  unfold ref20_Walk.b13
  refine ref20_Walk.l15_intro _ _ _ _ _ _ _ _ (fun y z w' => ∃ (i : Nat) (a' : Option Addr) (cw' : Nat), z = .int .i64 i ∧ i ≤ kk.length ∧ y = .slice a' ((kk.take i).reverse ++ ws).length cw' ∧ St noB W w' (RW m N met a' cw' ((kk.take i).reverse ++ ws) ao co out q [v1, v2, v3, .slice Ar ks.length cr])) (fun _ z _ => ks.length - iv z) ⟨0, a, cw, rfl, by omega, by simp, by simpa using s⟩ ?_
  rintro _ _ w2 ⟨i, a2, cw2, rfl, hi, rfl, s2⟩ C hC2
  have hwl : ((kk.take i).reverse ++ ws).length = i + ws.length := by simp; omega
  obtain ⟨ws1, hws1⟩ : ∃ ws1, (kk.take i).reverse ++ ws = ws1 := ⟨_, rfl⟩
  rw [hws1] at s2 hwl ⊢
  have y2 := s2.box 3 rfl
  simp [boxAt] at y2
  simp -dsimp [go_sem, y2]
  refine SPL_intro (fun p1 => ?_) (fun p1 => ?_) <;> simp at p1
  · have wi : IntKind.i64.wrap ((i : Int) + 1) = (i : Int) + 1 := IntWalk.i64_in _ (by omega)
    have w4 : IntKind.i64.wrap ((ks.length : Int) - 1) = (ks.length : Int) - 1 := IntWalk.i64_in _ (by omega)
    have w5 : IntKind.i64.wrap ((ks.length : Int) - 1 - i) = ((ks.length - 1 - i : Nat) : Int) := by rw [show (ks.length : Int) - 1 - i = ((ks.length - 1 - i : Nat) : Int) by omega]; exact IntWalk.i64_in _ (by omega)
    have hr2 : ks.length - 1 - i < ks.length := by omega
    have hbl := Rep.below hkr (s2.chg.below hB fun _ _ => id)
    obtain ⟨g, o, rfl, hgb, ck, hkin⟩ := Go.Px.ints_at hbl p1
    obtain ⟨g', o', eg, hgb', ck', _⟩ := Go.Px.ints_at hbl hr2
    injection eg with eg; injection eg with eg1 eg2; subst eg1 eg2
    have hkv : Value.int .i64 (if rt then ks[i] else ks[ks.length - 1 - i]) = .int .i64 ((kk[i]'(by omega) : Nat) : Int) := by
      congr 1
      cases rt with
      | true => 
        simp only [if_true] at hkk ⊢
        subst hkk
        simp [kidsN]
        have := h0 _ (List.getElem_mem p1); omega
      | false => 
        simp only [Bool.false_eq_true, if_false] at hkk ⊢
        subst hkk
        simp [kidsN]
        have := h0 _ (List.getElem_mem hr2); omega
    obtain ⟨k, hk⟩ : ∃ k, kk[i]'(by omega) = k := ⟨_, rfl⟩
    rw [hk] at hkv
    have et : kk.take (i + 1) = kk.take i ++ [k] := by rw [List.take_succ_eq_append_getElem (by omega), hk]
    have b21 : ref20_Walk.b21 R C7 C (.slice a2 ws1.length cw2) (.int .i64 i) (.int .i64 k) w2 := by
      unfold ref20_Walk.b21
      simp -dsimp [go_sem]
      refine s2.append1 1 rfl Try.underlying24 iInt' rfl (by omega) (news := [Value.int .i64 k]) rfl (by simp [Value.oneCell']) (by unfold maxLen; omega) (by unfold maxBytes; omega) fun g2 cap w3 s3 => ?_
      simp -dsimp [go_sem, wi]
      have e1 : (kk.take (i + 1)).reverse ++ ws = k :: ws1 := by rw [et, ← hws1]; simp
      have e3 : natV (k :: ws1).reverse = natV ws1.reverse ++ [Value.int .i64 k] := by simp [natV]
      refine hC2 _ _ _ ⟨i + 1, some ⟨g2, 0, none⟩, cap, by simp, by omega, by rw [e1]; rfl, ?_⟩ (by simp [iv]; omega)
      rw [e1]
      unfold RW
      rw [e3]
      exact s3
    simp -dsimp [go_sem, y2, w4, w5, ck', hr2]
    cases rt with
    | true =>
      simp -dsimp [go_sem, y2, p1, ck]
      simp only [if_true] at hkv
      rw [hkv]
      exact b21
    | false =>
      simp -dsimp [go_sem]
      simp only [Bool.false_eq_true, if_false] at hkv
      rw [hkv]
      exact b21
  · have hik : i = kk.length := by omega
    subst hik
    rw [List.take_length] at hws1
    subst hws1
    exact hC _ _ _ s2


theorem Walk_ct {w : World} {B : Nat} {nv : Value} {l : List Nd} {root : Int} {rt : Bool} (h : (rSlice rNd).at1 w B nv l) (hB : B ≤ w.heap.size) (hN : l.length ≤ 3000000000000) (hr : inI64 root) :
    Ct Try.prog ref20_Walk.id #[nv, .int .i64 root, .bool rt] w fun v w' => match walkP l rt root with
      | some r => ∃ a c, v = .tuple #[.slice a r.length c, .bool true] ∧ St noB w w' [rowC 3 1 a r.length c (natV r)]
      | none => v = .tuple #[.slice none 0 0, .bool false] ∧ Chg noB w w' := by
  refine ref20_Walk.ct fun R hR => ?_
  obtain ⟨A, cn, rfl, hl1, hl2, _⟩ := slice_form h
  have hno : ∀ w', walkP l rt root = none → Chg noB w w' → R (.returned (.tuple #[.slice none 0 0, .bool false])) w' := by
    intro w' h1 h2; refine hR _ _ ?_; rw [h1]; exact ⟨rfl, h2⟩
  have hyes : ∀ w' r a c, walkP l rt root = some r → St noB w w' [rowC 3 1 a r.length c (natV r)] → R (.returned (.tuple #[.slice a r.length c, .bool true])) w' := by
    intro w' r a c h1 h2; refine hR _ _ ?_; rw [h1]; exact ⟨a, c, rfl, h2⟩
  clear hR
  have hbad : ∀ w', ¬ (0 ≤ root ∧ root < l.length) → Chg noB w w' → ref20_Walk.b37 R (.slice A l.length cn) (.int .i64 root) (.bool rt) (.bool true) w' := fun w' h1 h2 => by
    unfold ref20_Walk.b37
    simp -dsimp [go_sem]
    exact hno _ (by unfold walkP; rw [if_neg h1]) h2
  unfold ref20_Walk.run
  simp -dsimp [go_sem]
  refine SPL_intro (fun p1 => ?_) (fun p1 => ?_) <;> simp at p1
  · exact hbad _ (by omega) (Chg.refl _ _)
  simp -dsimp [go_sem]
  unfold ref20_Walk.b37
  refine SPL_intro (fun p2 => ?_) (fun p2 => ?_) <;> simp at p2
  · exact hno _ (by unfold walkP; rw [if_neg (by omega)]) (Chg.refl _ _)
  obtain ⟨q, rfl⟩ : ∃ q : Nat, root = q := ⟨root.toNat, by omega⟩
  have hq : q < l.length := by omega
  have hmk := mkFlags w l.length (by unfold maxBytes; omega)
  have s1 := (St.refl noB w).lit 4 1 l.length (Array.replicate l.length (Value.bool false)) (by unfold maxLen; omega) (by simp)
  rw [Array.toList_replicate, ← metV_nil] at s1
  unfold ref20_Walk.b3
  obtain ⟨m, hm⟩ : ∃ m, w.heap.size = m := ⟨_, rfl⟩
  rw [hm] at s1 hmk
  obtain ⟨N, hNe⟩ : ∃ N, l.length = N := ⟨_, rfl⟩
  rw [hNe] at s1 hmk hq hN
  obtain ⟨gm, em, cm, fm⟩ := s1.rowAt 0 rfl (j := q) (by rw [metV_len]; exact hq)
  injection em with em; injection em with em; subst em
  have s2 := s1.setRow 0 rfl q (.bool true)
  rw [metV_set] at s2
  rw [hNe]
  have cmv : (metV N [])[q]'(by rw [metV_len]; exact hq) = .bool false := by simp [metV]
  rw [cmv] at cm
  simp -dsimp [go_sem, hmk, hq, cm, fm]
  have s2 : St noB w ((w.alloc (.cells (Array.replicate N (Value.bool false)) 4)).setCell ⟨m, q, none⟩ (.bool true)) [rowC 4 1 (some ⟨m, 0, none⟩) N N (metV N [q])] := s2
  have hsz : ((w.alloc (.cells (Array.replicate N (Value.bool false)) 4)).setCell ⟨m, q, none⟩ (.bool true)).heap.size = w.heap.size + 1 := by simp
  generalize (w.alloc (.cells (Array.replicate N (Value.bool false)) 4)).setCell ⟨m, q, none⟩ (.bool true) = w2 at s2 hsz ⊢
  have s3 := (s2.lit 3 1 1 #[.int .i64 q] (by simp [maxLen]) rfl).nilRow 3 1
  rw [hsz] at s3
  obtain ⟨g, hg⟩ : ∃ g, w.heap.size + 1 = g := ⟨_, rfl⟩
  rw [hg] at s3 ⊢
  generalize w2.alloc (.cells #[.int .i64 q] 3) = w3 at s3 ⊢
  refine ref20_Walk.l7_intro _ _ _ _ _ _ _ (fun y z w' => ∃ (f : Nat) (out ws : List Nat) (a : Option Addr) (cw : Nat) (ao : Option Addr) (co : Nat), y = .slice a ws.length cw ∧ z = .slice ao out.length co ∧ out.length + f = N ∧ walkF l rt f out ws = walkP l rt q ∧ (out ++ ws).Nodup ∧ (∀ x ∈ out ++ ws, x < N) ∧
    St noB w w' [rowC 4 1 (some ⟨m, 0, none⟩) N N (metV N (out ++ ws)), rowC 3 1 a ws.length cw (natV ws.reverse), rowC 3 1 ao out.length co (natV out)]) (fun _ z _ => N - slen z) ⟨N, [], [q], some ⟨g, 0, none⟩, 1, none, 0, rfl, rfl, by simp, ?_, by simp, by simp; omega, s3⟩ ?_
  · unfold walkP; rw [if_pos ⟨by omega, by omega⟩, hNe]; rfl
  rintro _ _ w4 ⟨f, out, ws, a, cw, ao, co, rfl, rfl, hf, hl, hnd, hlt, s4⟩ C hC
  cases ws with
  | nil =>
    simp -dsimp [go_sem]
    exact hyes _ out _ _ (by rw [← hl]; cases f <;> rfl) (s4.pick [2] (by decide) rfl)
  | cons n ws =>
    have hnN : n < N := hlt n (by simp)
    have hwN : out.length + (ws.length + 1) ≤ N := by
      have := nodup_len N _ hnd hlt
      simp at this; omega
    obtain ⟨f, rfl⟩ : ∃ f', f = f' + 1 := ⟨f - 1, by omega⟩
    have hnl : n < l.length := by omega
    have hgd : l.getD n zN = l[n] := by simp [hnl]
    have wl : IntKind.i64.wrap (ws.length : Int) = ws.length := IntWalk.i64_in _ (by omega)
    have xl : (ws.length : Int) < (ws.length : Int) + 1 := by omega
    have hne : 0 < ws.length + 1 := by omega
    obtain ⟨g1, eg, cg, fg⟩ := s4.rowAt 1 rfl (j := ws.length) (by simp [natV])
    have cg' : (natV (n :: ws).reverse)[ws.length]'(by simp [natV]) = .int .i64 n := by simp [natV]
    rw [cg'] at cg
    subst eg
    have hcw : ws.length + 1 ≤ cw := (s4.rowSize 1 rfl).2.1
    have hcw' : ws.length ≤ cw := by omega
    have e8 : natV (n :: ws).reverse = natV ws.reverse ++ [Value.int .i64 n] := by simp [natV]
    have s5 := s4.popRow 1 (n := ws.length) (xs := natV ws.reverse) (last := [Value.int .i64 n]) (by rw [← e8]; rfl) (by simp [natV])
    have s5 : St noB w w4 [rowC 4 1 (some ⟨m, 0, none⟩) N N (metV N (out ++ n :: ws)), rowC 3 1 (some ⟨g1, 0, none⟩) ws.length cw (natV ws.reverse), rowC 3 1 ao out.length co (natV out)] := s5
    obtain ⟨bp, op, vr, ep, hbp, x1, x2, x3, x4, hkr, z1, z2, z3⟩ := nodes_at h hnl
    subst ep
    have hbpw : bp < w.heap.size := by omega
    have x1 := (s5.chg.cell (p := ⟨bp, op + n * 4, none⟩) hbpw id).trans x1
    have x2 := (s5.chg.cell (p := ⟨bp, op + n * 4 + 1, none⟩) hbpw id).trans x2
    have x3 := (s5.chg.cell (p := ⟨bp, op + n * 4 + 2, none⟩) hbpw id).trans x3
    have x4 := (s5.chg.cell (p := ⟨bp, op + n * 4 + 3, none⟩) hbpw id).trans x4
    obtain ⟨Ar, cr, rfl, hr1, hr2, _⟩ := slice_form hkr
    obtain ⟨x, hx⟩ : ∃ x, l[n] = x := ⟨_, rfl⟩
    rw [hx] at x1 x2 x3 x4 hkr hr1 z1 z2 z3 hgd
    obtain ⟨sy, pr, tk, ks⟩ := x
    simp only at x1 x2 x3 x4 hkr hr1 z1 z2 z3
    have s6 := s5.alloc #[.int .i64 sy, .int .i64 pr, .int .i64 tk, .slice Ar ks.length cr] 61
    obtain ⟨qb, hqb⟩ : ∃ q, w4.heap.size = q := ⟨_, rfl⟩
    rw [hqb] at s6
    simp -dsimp [go_sem, hne]
    unfold ref20_Walk.b10
    simp -dsimp [go_sem, wl, xl, cg, hcw', hnN, x1, x2, x3, x4, hqb]
    have hsz6 : (w4.alloc (.cells #[.int .i64 sy, .int .i64 pr, .int .i64 tk, .slice Ar ks.length cr] 61)).heap.size = qb + 1 := by simp [hqb]
    rw [← hsz6]
    generalize w4.alloc (.cells #[.int .i64 sy, .int .i64 pr, .int .i64 tk, .slice Ar ks.length cr] 61) = w6 at s6 ⊢
    refine s6.append1 2 rfl Try.underlying24 iInt' rfl (by omega) (news := [Value.int .i64 n]) rfl (by simp [Value.oneCell']) (by unfold maxLen; omega) (by unfold maxBytes; omega) fun g7 c7 w7 s7 => ?_
    have e7 : natV out ++ [Value.int .i64 (n : Int)] = natV (out ++ [n]) := by rw [natV_append]; rfl
    have s7 : St noB w w7 (RW m N (out ++ n :: ws) (some ⟨g1, 0, none⟩) cw ws (some ⟨g7, 0, none⟩) c7 (out ++ [n]) qb [.int .i64 sy, .int .i64 pr, .int .i64 tk, .slice Ar ks.length cr]) := by
      unfold RW; rw [← e7, List.length_append]; exact s7
    have hstep : walkP l rt q = if okN n (sy, pr, tk, ks) ∧ freshN (n :: (out ++ ws)) (kidsN (0, 0, 0, ks)) then walkF l rt f (out ++ [n]) (nextW rt (0, 0, 0, ks) ws) else none := by
      rw [← hl, walkF, hgd]; rfl
    have hfc : freshN (out ++ n :: ws) (kidsN (0, 0, 0, ks)) ↔ freshN (n :: (out ++ ws)) (kidsN (0, 0, 0, ks)) := fresh_congr (fun i => by simp [or_left_comm])
    have hiff : okN n (sy, pr, tk, ks) ∧ freshN (n :: (out ++ ws)) (kidsN (0, 0, 0, ks)) ↔ (0 ≤ sy ∧ ((pr = -1 ∧ 0 ≤ tk ∧ ks = []) ∨ (0 ≤ pr ∧ tk = 0))) ∧ kidsOk n (out ++ n :: ws) ks := by
      rw [← hfc]
      unfold okN kidsOk
      simp only
      constructor
      · rintro ⟨⟨h1, h2 | ⟨h2, h3, h4⟩⟩, h5⟩
        · exact ⟨⟨h1, Or.inl h2⟩, by rw [h2.2.2]; simp, h5⟩
        · exact ⟨⟨h1, Or.inr ⟨h2, h3⟩⟩, h4, h5⟩
      · rintro ⟨⟨h1, h2 | ⟨h2, h3⟩⟩, h4, h5⟩
        · exact ⟨⟨h1, Or.inl h2⟩, h5⟩
        · exact ⟨⟨h1, Or.inr ⟨h2, h3, h4⟩⟩, h5⟩
    have hsY : (0 ≤ sy ∧ ((pr = -1 ∧ 0 ≤ tk ∧ ks = []) ∨ (0 ≤ pr ∧ tk = 0))) ∧ kidsOk n (out ++ n :: ws) ks → walkP l rt q = walkF l rt f (out ++ [n]) (nextW rt (0, 0, 0, ks) ws) := fun h => by rw [hstep, if_pos (hiff.2 h)]
    have hsN : ¬ ((0 ≤ sy ∧ ((pr = -1 ∧ 0 ≤ tk ∧ ks = []) ∨ (0 ≤ pr ∧ tk = 0))) ∧ kidsOk n (out ++ n :: ws) ks) → walkP l rt q = none := fun h => by rw [hstep, if_neg fun h' => h (hiff.1 h')]
    have hbad2 : ∀ {x9 x10 x11 x12 : Value}, ¬ (0 ≤ sy ∧ ((pr = -1 ∧ 0 ≤ tk ∧ ks = []) ∨ (0 ≤ pr ∧ tk = 0))) → ref20_Walk.b35 R C (.bool rt) (.slice (some ⟨m, 0, none⟩) N N) x9 x10 x11 x12 (.bool true) w7 := fun hb => by
      unfold ref20_Walk.b35
      simp -dsimp [go_sem]
      exact hno _ (hsN fun h => hb h.1) s7.chg
    have hgood : (0 ≤ sy ∧ ((pr = -1 ∧ 0 ≤ tk ∧ ks = []) ∨ (0 ≤ pr ∧ tk = 0))) → ref20_Walk.b35 R C (.bool rt) (.slice (some ⟨m, 0, none⟩) N N) (.slice (some ⟨g1, 0, none⟩) ws.length cw) (.slice (some ⟨g7, 0, none⟩) (out.length + 1) c7) (.int .i64 n) (.pointer (some ⟨qb, 0, none⟩)) (.bool false) w7 := fun hb => by
      unfold ref20_Walk.b35
      simp -dsimp [go_sem]
      refine met_loop s7 hkr hB hnN (fun w' h1 h2 => hno _ (hsN fun h => h1 h.2) h2) fun hok w8 s8 => ?_
      have hfr := (hsY ⟨hb, hok⟩).symm
      obtain ⟨kk, hkk⟩ : ∃ kk, (if rt then kidsN (0, 0, 0, ks) else (kidsN (0, 0, 0, ks)).reverse) = kk := ⟨_, rfl⟩
      have hnx : nextW rt (0, 0, 0, ks) ws = kk.reverse ++ ws := by unfold nextW; rw [← hkk]; cases rt <;> simp
      have hkf : freshN (out ++ n :: ws) kk := by
        rw [← hkk]
        cases rt
        · exact fresh_rev.2 hok.2
        · exact hok.2
      have hmk : ∀ k, k ∈ kk → k < n := by
        intro k hk
        have hk2 : k ∈ kidsN (0, 0, 0, ks) := by rw [← hkk] at hk; cases rt <;> simpa using hk
        obtain ⟨y, hy, rfl⟩ := List.mem_map.1 hk2
        have := hok.1 y hy; omega
      have hnd2 := next_nodup hnd hkf
      have hlt2 : ∀ x ∈ out ++ [n] ++ (kk.reverse ++ ws), x < N := by
        intro x hx
        simp at hx
        rcases hx with hx | hx | hx | hx
        · exact hlt x (by simp [hx])
        · exact hlt x (by simp [hx])
        · have := hmk x hx; omega
        · exact hlt x (by simp [hx])
      have hkl : kk.length = ks.length := by rw [← hkk]; cases rt <;> simp [kidsN]
      have hlen := nodup_len N _ hnd2 hlt2
      simp at hlen
      refine push_loop s8 hkr hB (fun k hk => (hok.1 k hk).1) hN (by omega) fun a' cw' w9 s9 => ?_
      refine hC _ _ _ ⟨f, out ++ [n], nextW rt (0, 0, 0, ks) ws, a', cw', some ⟨g7, 0, none⟩, c7, rfl, by rw [List.length_append]; rfl, by simp; omega, hfr, ?_, ?_, ?_⟩ (by simp [slen]; omega)
      · rw [hnx]; exact hnd2
      · rw [hnx]; exact hlt2
      · have s10 := s9.take 3
        have e : metV N (out ++ [n] ++ nextW rt (0, 0, 0, ks) ws) = metV N (kidsN (0, 0, 0, ks) ++ (out ++ n :: ws)) := metV_congr fun x => by
          have : x ∈ nextW rt (0, 0, 0, ks) ws ↔ x ∈ kidsN (0, 0, 0, ks) ∨ x ∈ ws := by unfold nextW; cases rt <;> simp
          rw [List.mem_append, this]
          simp only [List.mem_append, List.mem_cons, List.not_mem_nil, or_false]
          constructor
          · rintro ((h | h) | (h | h)) <;> simp [h]
          · rintro (h | h | h | h) <;> simp [h]
        rw [e]
        have e2 : (out ++ [n]).length = out.length + 1 := by simp
        exact s10
    unfold ref20_Walk.b34
    have y7 := s7.box 3 rfl
    simp [boxAt] at y7
    simp -dsimp [go_sem, y7]
    refine SPL_intro (fun p3 => ?_) (fun p3 => ?_) <;> simp at p3
    · exact hbad2 (by omega)
    simp -dsimp [go_sem, y7]
    refine SPL_intro (fun p4 => ?_) (fun p4 => ?_) <;> simp at p4
    · exact hbad2 (by omega)
    simp -dsimp [go_sem, y7]
    refine SPL_intro (fun p5 => ?_) (fun p5 => ?_) <;> simp at p5
    · exact hbad2 (by omega)
    simp -dsimp [go_sem, y7]
    refine SPL_intro (fun p6 => ?_) (fun p6 => ?_) <;> simp at p6
    · simp -dsimp [go_sem, y7]
      refine SPL_intro (fun p7 => ?_) (fun p7 => ?_) <;> simp at p7
      · exact hbad2 (fun h => by
          rcases h.2 with h | h
          · rw [h.2.2] at p7; simp at p7
          · omega)
      · simp -dsimp [go_sem, y7]
        have hk0 : ks = [] := by simpa using p7
        have p8 : ¬ 0 ≤ pr := by omega
        simp -dsimp [go_sem, p8]
        exact hgood ⟨by omega, Or.inl ⟨p6, p5, hk0⟩⟩
    · simp -dsimp [go_sem, y7]
      have p8 : 0 ≤ pr := by omega
      simp -dsimp [go_sem, p8, y7]
      cases ht : (tk != 0) with
      | false => exact hgood ⟨by omega, Or.inr ⟨p8, by simpa using ht⟩⟩
      | true =>
        have ht : tk ≠ 0 := by simpa using ht
        exact hbad2 (by omega)
end Go.Proofs.Ytkacbjhiobnbfaa

/-
  The document's Frontier and Rightmost.
-/
namespace Go.Proofs.Ytkacbjhiobnbfaa
open Go.Px Go.Px.Scan Go.RowKit
theorem walkF_mem {l : List Nd} {rt : Bool} : ∀ {f : Nat} {out ws r : List Nat}, walkF l rt f out ws = some r → (out ++ ws).Nodup → (∀ x ∈ out ++ ws, x < l.length) → r.Nodup ∧ ∀ x ∈ r, x < l.length
  | f, out, [], r, h, h1, h2 => by
    have e : out = r := by cases f <;> (simp only [walkF] at h; exact Option.some.inj h)
    subst e; exact ⟨by simpa using h1, fun x hx => h2 x (by simp [hx])⟩
  | 0, out, n :: ws, r, h, h1, h2 => by simp [walkF] at h
  | f + 1, out, n :: ws, r, h, h1, h2 => by
    simp only [walkF] at h
    split at h
    · rename_i hc
      obtain ⟨hok, hfr⟩ := hc
      have hfr : freshN (out ++ n :: ws) (kidsN (l.getD n zN)) := (fresh_congr (fun i => by simp [or_left_comm])).1 hfr
      have hnx : ∃ kk, nextW rt (l.getD n zN) ws = kk.reverse ++ ws ∧ freshN (out ++ n :: ws) kk ∧ ∀ k, k ∈ kk → k ∈ kidsN (l.getD n zN) := by
        unfold nextW
        cases rt with
        | true => exact ⟨_, rfl, hfr, fun _ h => h⟩
        | false => exact ⟨(kidsN (l.getD n zN)).reverse, by simp, fresh_rev.2 hfr, fun k hk => by simpa using hk⟩
      obtain ⟨kk, e, hfk, hm⟩ := hnx
      rw [e] at h
      refine walkF_mem h (next_nodup h1 hfk) fun x hx => ?_
      simp at hx
      rcases hx with hx | hx | hx | hx
      · exact h2 x (by simp [hx])
      · exact h2 x (by simp [hx])
      · have := kids_lt hok x (hm x hx)
        have := h2 n (by simp); omega
      · exact h2 x (by simp [hx])
    · cases h
theorem walkP_nodup {l : List Nd} {rt : Bool} {root : Int} {r : List Nat} (h : walkP l rt root = some r) : r.Nodup := by
  unfold walkP at h
  split at h
  · exact (walkF_mem h (by simp) (by simp; omega)).1
  · cases h
theorem walkP_lt {l : List Nd} {rt : Bool} {root : Int} {r : List Nat} (h : walkP l rt root = some r) : ∀ x ∈ r, x < l.length := by
  unfold walkP at h
  split at h
  · exact (walkF_mem h (by simp) (by simp; omega)).2
  · cases h
set_option maxHeartbeats 1000000
set_option linter.unusedSimpArgs false
set_option linter.unusedVariables false
set_option maxRecDepth 100000
attribute [-go_sem] Builtin.append_ ref20_Frontier.b1_1 ref20_Rightmost.b1_1

theorem refFrontier_ct {w : World} {B : Nat} {nv : Value} {l : List Nd} {root : Int} (h : (rSlice rNd).at1 w B nv l) (hB : B ≤ w.heap.size) (hN : l.length ≤ 3000000000000) (hr : inI64 root) :
    Ct Try.prog ref20_Frontier.id #[nv, .int .i64 root] w fun v w' => match lookP l false (frV l) [] root with
      | some r => ∃ a c, v = .tuple #[.slice a r.length c, .int .i64 0] ∧ St noB w w' [rowC 3 1 a r.length c (intV r)]
      | none => v = .tuple #[.slice none 0 0, .int .i64 1] ∧ Chg noB w w' := by
  refine ref20_Frontier.ct fun R hR => ?_
  rw [lookP_walk] at hR
  unfold ref20_Frontier.run
  simp -dsimp [go_sem]
  refine CALL_of (Walk_ct (rt := false) h hB hN hr) ?_
  intro v w1 hp
  unfold ref20_Frontier.b1_1
  cases hw : walkP l false root with
  | none =>
    rw [hw] at hp hR
    obtain ⟨rfl, hc⟩ := hp
    simp -dsimp [go_sem]
    exact hR _ _ ⟨rfl, hc⟩
  | some r =>
    rw [hw] at hp hR
    obtain ⟨a, c, rfl, s1⟩ := hp
    have hR' : ∀ s a c w', looks (frV l) [] r = some s → St noB w w' [rowC 3 1 a s.length c (intV s)] → R (.returned (.tuple #[.slice a s.length c, .int .i64 0])) w' := by
      intro s a c w' h1 h2; refine hR _ _ ?_; simp only [Option.bind_some, h1]; exact ⟨a, c, rfl, h2⟩
    clear hR
    obtain ⟨A, cn, rfl, hl1, hl2, _⟩ := slice_form h
    have hrl := walkP_lt hw
    have hrm := s1.rowSize 0 rfl
    have hrn := nodup_len l.length r (walkP_nodup hw) hrl
    simp -dsimp [go_sem]
    refine ref20_Frontier.l6_intro _ _ _ _ _ _ (fun y z w' => ∃ (i : Nat) (s : List Int) (ao : Option Addr) (co : Nat), z = .int .i64 i ∧ y = .slice ao s.length co ∧ i ≤ r.length ∧ s.length ≤ i ∧ looks (frV l) [] (r.take i) = some s ∧ St noB w w' [rowC 3 1 a r.length c (natV r), rowC 3 1 ao s.length co (intV s)]) (fun _ z _ => r.length - iv z) ⟨0, [], none, 0, rfl, rfl, by omega, by simp, rfl, s1.nilRow 3 1⟩ ?_
    rintro _ _ w2 ⟨i, s, ao, co, rfl, rfl, hi, hsl, hlk, s2⟩ C hC
    simp -dsimp [go_sem]
    refine SPL_intro (fun p1 => ?_) (fun p1 => ?_) <;> simp at p1
    · obtain ⟨g, ea, ck, fk⟩ := s2.rowAt 0 rfl (j := i) (by rw [natV_len]; exact p1)
      subst ea
      rw [natV_get p1] at ck
      obtain ⟨n, hn⟩ : ∃ n, r[i] = n := ⟨_, rfl⟩
      have hnl : n < l.length := hn ▸ hrl _ (List.getElem_mem p1)
      rw [hn] at ck
      have et : r.take (i + 1) = r.take i ++ [n] := by rw [List.take_succ_eq_append_getElem p1, hn]
      obtain ⟨bp, op, vr, ep, hbp, x1, x2, x3, x4, hkr, z1, z2, z3⟩ := nodes_at (Rep.below h (s2.chg.below hB fun _ _ => id)) hnl
      subst ep
      have hgd : l.getD n zN = l[n] := by simp [hnl]
      have wi : IntKind.i64.wrap ((i : Int) + 1) = (i : Int) + 1 := IntWalk.i64_in _ (by omega)
      have hnx : looks (frV l) [] (r.take (i + 1)) = frV l s n := by rw [et, looks_snoc, hlk]; rfl
      unfold frV at hnx
      rw [hgd] at hnx
      generalize l[n] = x at *
      simp -dsimp [go_sem, p1, ck, hnl, x1, x2]
      refine SPL_intro (fun p2 => ?_) (fun p2 => ?_) <;> simp at p2
      · simp -dsimp [go_sem, p1, ck, hnl, x1, x2]
        refine s2.append1 1 rfl Try.underlying24 iInt' rfl (by omega) (news := [Value.int .i64 x.1]) rfl (by simp [Value.oneCell']) (by unfold maxLen; omega) (by unfold maxBytes; omega) fun g2 cap w3 s3 => ?_
        simp -dsimp [go_sem, wi]
        rw [if_pos p2] at hnx
        refine hC _ _ _ ⟨i + 1, s ++ [x.1], _, _, by simp, by rw [List.length_append]; rfl, by omega, by simp; omega, hnx, ?_⟩ (by simp [iv]; omega)
        rw [intV_append, List.length_append]
        exact s3
      · simp -dsimp [go_sem, wi]
        rw [if_neg (by omega)] at hnx
        exact hC _ _ _ ⟨i + 1, s, _, _, by simp, rfl, by omega, by omega, hnx, s2⟩ (by simp [iv]; omega)
    · have hir : i = r.length := by omega
      subst hir
      rw [List.take_length] at hlk
      simp -dsimp [go_sem]
      exact hR' _ _ _ _ hlk (s2.pick [1] (by decide) rfl)

theorem refRightmost_ct {w : World} {B : Nat} {nv : Value} {l : List Nd} {root : Int} (h : (rSlice rNd).at1 w B nv l) (hB : B ≤ w.heap.size) (hN : l.length ≤ 3000000000000) (hr : inI64 root) :
    Ct Try.prog ref20_Rightmost.id #[nv, .int .i64 root] w fun v w' => match lookP l true (rmV l) [] root with
      | some r => ∃ a c, v = .tuple #[.slice a r.length c, .int .i64 0] ∧ St noB w w' [rowC 3 1 a r.length c (intV r)]
      | none => v = .tuple #[.slice none 0 0, .int .i64 1] ∧ Chg noB w w' := by
  refine ref20_Rightmost.ct fun R hR => ?_
  rw [lookP_walk] at hR
  unfold ref20_Rightmost.run
  simp -dsimp [go_sem]
  refine CALL_of (Walk_ct (rt := true) h hB hN hr) ?_
  intro v w1 hp
  unfold ref20_Rightmost.b1_1
  cases hw : walkP l true root with
  | none =>
    rw [hw] at hp hR
    obtain ⟨rfl, hc⟩ := hp
    simp -dsimp [go_sem]
    exact hR _ _ ⟨rfl, hc⟩
  | some r =>
    rw [hw] at hp hR
    obtain ⟨a, c, rfl, s1⟩ := hp
    have hR' : ∀ s a c w', looks (rmV l) [] r = some s → St noB w w' [rowC 3 1 a s.length c (intV s)] → R (.returned (.tuple #[.slice a s.length c, .int .i64 0])) w' := by
      intro s a c w' h1 h2; refine hR _ _ ?_; simp only [Option.bind_some, h1]; exact ⟨a, c, rfl, h2⟩
    clear hR
    obtain ⟨A, cn, rfl, hl1, hl2, _⟩ := slice_form h
    have hrl := walkP_lt hw
    have hrm := s1.rowSize 0 rfl
    have hrn := nodup_len l.length r (walkP_nodup hw) hrl
    simp -dsimp [go_sem]
    refine ref20_Rightmost.l6_intro _ _ _ _ _ _ (fun y z w' => ∃ (i : Nat) (s : List Int) (ao : Option Addr) (co : Nat), z = .int .i64 i ∧ y = .slice ao s.length co ∧ i ≤ r.length ∧ s.length ≤ i ∧ looks (rmV l) [] (r.take i) = some s ∧ St noB w w' [rowC 3 1 a r.length c (natV r), rowC 3 1 ao s.length co (intV s)]) (fun _ z _ => r.length - iv z) ⟨0, [], none, 0, rfl, rfl, by omega, by simp, rfl, s1.nilRow 3 1⟩ ?_
    rintro _ _ w2 ⟨i, s, ao, co, rfl, rfl, hi, hsl, hlk, s2⟩ C hC
    simp -dsimp [go_sem]
    refine SPL_intro (fun p1 => ?_) (fun p1 => ?_) <;> simp at p1
    · obtain ⟨g, ea, ck, fk⟩ := s2.rowAt 0 rfl (j := i) (by rw [natV_len]; exact p1)
      subst ea
      rw [natV_get p1] at ck
      obtain ⟨n, hn⟩ : ∃ n, r[i] = n := ⟨_, rfl⟩
      have hnl : n < l.length := hn ▸ hrl _ (List.getElem_mem p1)
      rw [hn] at ck
      have et : r.take (i + 1) = r.take i ++ [n] := by rw [List.take_succ_eq_append_getElem p1, hn]
      obtain ⟨bp, op, vr, ep, hbp, x1, x2, x3, x4, hkr, z1, z2, z3⟩ := nodes_at (Rep.below h (s2.chg.below hB fun _ _ => id)) hnl
      subst ep
      have hgd : l.getD n zN = l[n] := by simp [hnl]
      have wi : IntKind.i64.wrap ((i : Int) + 1) = (i : Int) + 1 := IntWalk.i64_in _ (by omega)
      have hnx : looks (rmV l) [] (r.take (i + 1)) = rmV l s n := by rw [et, looks_snoc, hlk]; rfl
      unfold rmV at hnx
      rw [hgd] at hnx
      generalize l[n] = x at *
      simp -dsimp [go_sem, p1, ck, hnl, x1, x2]
      refine SPL_intro (fun p2 => ?_) (fun p2 => ?_) <;> simp at p2
      · simp -dsimp [go_sem, p1, ck, hnl, x1, x2]
        refine s2.append1 1 rfl Try.underlying24 iInt' rfl (by omega) (news := [Value.int .i64 x.2.1]) rfl (by simp [Value.oneCell']) (by unfold maxLen; omega) (by unfold maxBytes; omega) fun g2 cap w3 s3 => ?_
        simp -dsimp [go_sem, wi]
        rw [if_pos p2] at hnx
        refine hC _ _ _ ⟨i + 1, s ++ [x.2.1], _, _, by simp, by rw [List.length_append]; rfl, by omega, by simp; omega, hnx, ?_⟩ (by simp [iv]; omega)
        rw [intV_append, List.length_append]
        exact s3
      · simp -dsimp [go_sem, wi]
        rw [if_neg (by omega)] at hnx
        exact hC _ _ _ ⟨i + 1, s, _, _, by simp, rfl, by omega, by omega, hnx, s2⟩ (by simp [iv]; omega)
    · have hir : i = r.length := by omega
      subst hir
      rw [List.take_length] at hlk
      simp -dsimp [go_sem]
      exact hR' _ _ _ _ hlk (s2.pick [1] (by decide) rfl)
end Go.Proofs.Ytkacbjhiobnbfaa

/-
  What is looked at, one after the other.
-/
namespace Go.Px.Scan
open Go.Px Go.RowKit
theorem eqF_true {p : Int → Int → Bool} {a b : List Int} (hl : a.length = b.length) (h : ∀ (i : Nat) (h1 : i < a.length) (h2 : i < b.length), p a[i] b[i] = true) : eqF p a b = true := by
  unfold eqF
  rw [decide_eq_true hl, Bool.true_and, List.all_eq_true]
  intro x hx
  obtain ⟨i, hi, rfl⟩ := List.getElem_of_mem hx
  rw [List.length_zip] at hi
  have h1 : i < a.length := by omega
  have h2 : i < b.length := by omega
  simpa using h i h1 h2
theorem eqF_false {p : Int → Int → Bool} {a b : List Int} {i : Nat} (h1 : i < a.length) (h2 : i < b.length) (h : p a[i] b[i] = false) : eqF p a b = false := by
  unfold eqF
  rw [Bool.and_eq_false_iff]
  refine Or.inr (List.all_eq_false.2 ⟨(a[i], b[i]), ?_, by simp [h]⟩)
  have : (a.zip b)[i]'(by simp; omega) = (a[i], b[i]) := by simp
  rw [← this]; exact List.getElem_mem _
theorem walkF_ok {l : List Nd} {rt : Bool} : ∀ {f : Nat} {out ws r : List Nat}, walkF l rt f out ws = some r → (∀ x ∈ out, okN x (l.getD x zN)) → ∀ x ∈ r, okN x (l.getD x zN)
  | f, out, [], r, h, h1 => by
    have e : out = r := by cases f <;> (simp only [walkF] at h; exact Option.some.inj h)
    subst e; exact h1
  | 0, out, n :: ws, r, h, h1 => by simp [walkF] at h
  | f + 1, out, n :: ws, r, h, h1 => by
    simp only [walkF] at h
    split at h
    · rename_i hc
      refine walkF_ok h fun x hx => ?_
      rcases List.mem_append.1 hx with hx | hx
      · exact h1 x hx
      · rw [List.mem_singleton] at hx; subst hx; exact hc.1
    · cases h
theorem walkP_ok {l : List Nd} {rt : Bool} {root : Int} {r : List Nat} (h : walkP l rt root = some r) : ∀ x ∈ r, okN x (l.getD x zN) := by
  unfold walkP at h
  split at h
  · exact walkF_ok h (by simp)
  · cases h
theorem walkP_root {l : List Nd} {rt : Bool} {root : Int} {r : List Nat} (h : walkP l rt root = some r) : 0 ≤ root ∧ root < l.length := by
  unfold walkP at h
  split at h
  · assumption
  · cases h
theorem looks_append {σ : Type} {V : σ → Nat → Option σ} {s : σ} {a b : List Nat} : looks V s (a ++ b) = (looks V s a).bind fun s => looks V s b := by
  cases h : looks V s a with
  | none => simp only [Option.bind_none]; unfold looks at h ⊢; rw [List.foldl_append, h, looks_none]
  | some s' => simp only [Option.bind_some]; unfold looks at h ⊢; rw [List.foldl_append, h]
theorem looks_cut {σ : Type} {V : σ → Nat → Option σ} {s : σ} {a : List Nat} {k : Nat} (h : looks V s (a.take k) = none) : looks V s a = none := by
  rw [← List.take_append_drop k a, looks_append, h]; rfl
end Go.Px.Scan

