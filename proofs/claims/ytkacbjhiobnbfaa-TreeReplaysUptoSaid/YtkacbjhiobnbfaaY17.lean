/-
  Texts of this claim: GwR, Gs6, Tr6, Tp1, Tp2, Tp3, Tp4, Ld0, ShP, TrX.
-/
import Derived.Test.YtkacbjhiobnbfaaY14
import Derived.Test.YtkacbjhiobnbfaaY16
import Derived.Test.YtkacbjhiobnbfaaY15
import Derived.Test.YtkacbjhiobnbfaaY13
import Derived.Test.YtkacbjhiobnbfaaY02
/-
  How much nodes and productions are.
-/
namespace Go.Px.Scan
open Go.Px
theorem bulk_nds (l : List Nd) : l.length ≤ (rSlice rNd).bulk l := by
  show l.length ≤ (l.map rNd.bulk).sum + 1
  have := sum_ge (f := rNd.bulk) (l := l) (fun x => by
    show 1 ≤ 1 + (1 + (1 + (rSlice rInt).bulk x.2.2.2))
    omega)
  omega
theorem sum_le_sum {α : Type} {f h : α → Nat} (hfh : ∀ x, f x ≤ h x) : ∀ l : List α, (l.map f).sum ≤ (l.map h).sum
  | [] => Nat.le_refl _
  | x :: l => by
    have := sum_le_sum hfh l
    have := hfh x
    rw [List.map_cons, List.sum_cons, List.map_cons, List.sum_cons]; omega
theorem bulk_off {g : Gr} {n : Nat} (h : rGram.bulk g ≤ n) : off g.prods g.prods.length ≤ n := by
  have h1 : (g.prods.map rPr.bulk).sum + 1 ≤ n := by
    have e : rGram.bulk g = (rSlice rTerm).bulk g.terms + ((rSlice rStr).bulk g.nons + ((rSlice rInt).bulk g.levels + (rInt.bulk g.start + (rSlice rPr).bulk g.prods))) := rfl
    have e2 : (rSlice rPr).bulk g.prods = (g.prods.map rPr.bulk).sum + 1 := rfl
    omega
  rw [off_sum]
  have := sum_le_sum (f := fun p : Int × List Int × Int => p.2.1.length + 1) (h := rPr.bulk) (fun p => by
    have h3 : rPr.bulk p = 1 + ((rSlice rInt).bulk p.2.1 + 1) := rfl
    have h4 := bulk_ints p.2.1
    show p.2.1.length + 1 ≤ rPr.bulk p
    omega) g.prods
  omega
end Go.Px.Scan

/-
  Valid and Closed.
-/
namespace Go.Proofs.Ytkacbjhiobnbfaa
open Go.Px Go.Px.Scan Go.RowKit
set_option maxHeartbeats 1000000
set_option linter.unusedSimpArgs false
set_option linter.unusedVariables false
set_option maxRecDepth 100000
attribute [-go_sem] Builtin.append_

theorem Valid_ct {w : World} {B : Nat} {v : Value} {g : Gr} (h : rGram.atN w B v g) (hB : B ≤ w.heap.size) : Ct Try.prog gram_Valid.id #[v] w fun r w' => r = .bool (validB g) ∧ Chg noB w w' := by
  refine gram_Valid.ct fun R hR => ?_
  obtain ⟨A1, c1, A2, c2, A3, c3, A4, c4, rfl, h1, h2, h3, h4, h5, ⟨l1, m1⟩, ⟨l2, m2⟩, ⟨l3, m3⟩, ⟨l4, m4⟩⟩ := (rGram_open h).ex
  have no : ∀ w', Chg noB w w' → ¬ ValidP g → R (.returned (.bool false)) w' := fun w' hc hn => hR _ _ ⟨by rw [bool_no validB_iff hn], hc⟩
  unfold gram_Valid.run
  simp -dsimp [go_sem]
  have h0 := (St.refl noB w).alloc #[.slice A1 g.terms.length c1, .slice A2 g.nons.length c2, .slice A3 g.levels.length c3, .int .i64 g.start, .slice A4 g.prods.length c4] 27
  have hb1 := h0.chg.below hB fun _ _ => id
  have hB1 : B ≤ (w.alloc (.cells #[.slice A1 g.terms.length c1, .slice A2 g.nons.length c2, .slice A3 g.levels.length c3, .int .i64 g.start, .slice A4 g.prods.length c4] 27)).heap.size := by have := h0.chg.size; omega
  generalize w.heap.size = q at h0 ⊢
  generalize w.alloc (.cells #[.slice A1 g.terms.length c1, .slice A2 g.nons.length c2, .slice A3 g.levels.length c3, .int .i64 g.start, .slice A4 g.prods.length c4] 27) = w1 at h0 hb1 hB1 ⊢
  refine CALL_of (symbols_ct (rGram_below h hb1) hB1 (a := 0) (by omega)) ?_
  rintro _ w2 ⟨rfl, hc2⟩
  have hst2 := h0.old hc2
  have k2 := hst2.box 0 rfl
  simp [boxAt] at k2
  cases hs : symB g 0 with
  | false =>
    simp -dsimp [go_sem]
    refine no _ hst2.chg fun hv => ?_
    rw [symB_iff.2 hv.syms] at hs; cases hs
  | true =>
    have hsP := symB_iff.1 hs
    simp -dsimp [go_sem, k2]
    have hb2 := hst2.chg.below (B := B) (by omega) fun _ _ => id
    refine CALL_of (productions_ct (rGram_below h hb2) (by have := hc2.size; omega) (a := 0) (by omega) hsP) ?_
    rintro _ w3 ⟨⟨vl, rfl, hl⟩, hc3⟩
    have hst3 := hst2.old hc3
    simp -dsimp [go_sem]
    cases hp : prodB g 0 with
    | false =>
      simp -dsimp [go_sem]
      refine no _ hst3.chg fun hv => ?_
      rw [prodB_iff.2 hv.prods] at hp; cases hp
    | true =>
      have hpP := prodB_iff.1 hp
      have hl' := hl hp
      rw [List.drop_zero] at hl'
      simp -dsimp [go_sem]
      refine CALL_of (IsSorted_ct hl' (Nat.le_refl _)) ?_
      rintro _ w4 ⟨rfl, hc4⟩
      refine hR _ _ ⟨?_, hst3.chg.trans hc4⟩
      congr 1
      refine bool_eq ?_
      rw [decide_eq_true_iff, validB_iff]
      exact ⟨fun hs => ⟨hsP, hpP, hs⟩, fun hv => hv.sorted⟩

theorem Closed_ct {w : World} {B : Nat} {v : Value} {g : Gr} (h : rGram.atN w B v g) (hB : B ≤ w.heap.size) : Ct Try.prog gram_Closed.id #[v] w fun r w' => r = .bool (closedB g) ∧ Chg noB w w' := by
  refine gram_Closed.ct fun R hR => ?_
  obtain ⟨A1, c1, A2, c2, A3, c3, A4, c4, rfl, h1, h2, h3, h4, h5, ⟨l1, m1⟩, ⟨l2, m2⟩, ⟨l3, m3⟩, ⟨l4, m4⟩⟩ := (rGram_open h).ex
  have no : ∀ w', Chg noB w w' → ¬ ClosedP g → R (.returned (.bool false)) w' := fun w' hc hn => hR _ _ ⟨by rw [bool_no closedB_iff hn], hc⟩
  unfold gram_Closed.run
  simp -dsimp [go_sem]
  have h0 := (St.refl noB w).alloc #[.slice A1 g.terms.length c1, .slice A2 g.nons.length c2, .slice A3 g.levels.length c3, .int .i64 g.start, .slice A4 g.prods.length c4] 27
  have hb1 := h0.chg.below hB fun _ _ => id
  have hB1 : B ≤ (w.alloc (.cells #[.slice A1 g.terms.length c1, .slice A2 g.nons.length c2, .slice A3 g.levels.length c3, .int .i64 g.start, .slice A4 g.prods.length c4] 27)).heap.size := by have := h0.chg.size; omega
  generalize w.heap.size = q at h0 ⊢
  generalize w.alloc (.cells #[.slice A1 g.terms.length c1, .slice A2 g.nons.length c2, .slice A3 g.levels.length c3, .int .i64 g.start, .slice A4 g.prods.length c4] 27) = w1 at h0 hb1 hB1 ⊢
  have k0 := h0.box 0 rfl
  simp [boxAt] at k0
  refine SPL_intro (fun q1 => ?_) (fun q1 => ?_) <;> simp at q1
  · simp -dsimp [go_sem]
    exact no _ h0.chg fun hv => by have := hv.first; rw [q1] at this; cases this
  have q1' : 0 < g.nons.length := List.length_pos_iff.2 q1
  obtain ⟨b2, o2, rfl, hb2, d1, d2⟩ := Go.Px.strs_at (Rep.below h2 hb1) q1'
  simp at d1
  simp -dsimp [go_sem, k0, q1', d1]
  have hf : g.nons.head? = some g.nons[0] := by rw [List.head?_eq_getElem?, List.getElem?_eq_getElem q1']
  refine SPL_intro (fun p1 => ?_) (fun p1 => ?_) <;> simp at p1
  · simp -dsimp [go_sem]
    refine no _ h0.chg fun hv => p1 ?_
    have h9 := hv.first
    rw [hf] at h9
    injection h9 with h9
    rw [h9, ByteArray.toList_eq]
  have hfirst : g.nons.head? = some ⟨#[]⟩ := by
    rw [hf]
    congr 1
    exact bs_ext (by rw [← ByteArray.toList_eq]; exact p1)
  simp -dsimp [go_sem, k0]
  refine CALL_of (symbols_ct (rGram_below h hb1) hB1 (a := 1) (by omega)) ?_
  rintro _ w2 ⟨rfl, hc2⟩
  have hst2 := h0.old hc2
  have k2 := hst2.box 0 rfl
  simp [boxAt] at k2
  cases hs : symB g 1 with
  | false =>
    simp -dsimp [go_sem]
    refine no _ hst2.chg fun hv => ?_
    rw [symB_iff.2 hv.syms] at hs; cases hs
  | true =>
    have hsP := symB_iff.1 hs
    simp -dsimp [go_sem, k2]
    have hb2 := hst2.chg.below (B := B) (by omega) fun _ _ => id
    have hB2 : B ≤ w2.heap.size := by have := hc2.size; omega
    refine CALL_of (productions_ct (rGram_below h hb2) hB2 (a := 1) (by omega) hsP) ?_
    rintro _ w3 ⟨⟨vl, rfl, hl⟩, hc3⟩
    have hst3 := hst2.old hc3
    have k3 := hst3.box 0 rfl
    simp [boxAt] at k3
    cases hp : prodB g 1 with
    | false =>
      simp -dsimp [go_sem, k3]
      refine no _ hst3.chg.drew fun hv => ?_
      rw [prodB_iff.2 hv.prods] at hp; cases hp
    | true =>
      have hpP := prodB_iff.1 hp
      have hc0 : 0 < g.prods.length := by have := hpP.c0; omega
      have hstd := hst3.old ((Chg.refl noB w3).drew)
      have kd := hstd.box 0 rfl
      simp [boxAt] at kd
      have hB3 : B ≤ w3.drew.heap.size := by have := hc3.size; simp; omega
      obtain ⟨b5, o5, vr, rfl, hb5, f1, f2, f3, fr, i1, i2⟩ := prods_at (Rep.below h5 (hstd.chg.below hB fun _ _ => id)) hc0
      obtain ⟨Ar, cr, rfl, lr, mr, _⟩ := slice_form fr
      simp at f1 f2 f3
      have hph : g.prods.head? = some g.prods[0] := by rw [List.head?_eq_getElem?, List.getElem?_eq_getElem hc0]
      have fin : ∀ b : Bool, (b = true ↔ g.prods[0] = ((g.terms.length : Int), [g.start], 0)) → R (.returned (.bool b)) w3.drew := fun b hb => by
        refine hR _ _ ⟨?_, hstd.chg⟩
        congr 1
        refine bool_eq ?_
        rw [closedB_iff, hb]
        constructor
        · intro e; exact ⟨hfirst, hsP, hpP, by rw [hph, e]⟩
        · intro hv
          have := hv.added
          rw [hph] at this
          injection this
      simp -dsimp [go_sem, k3, kd, hc0, f1, f2, f3]
      refine SPL_intro (fun q2 => ?_) (fun q2 => ?_) <;> simp at q2
      · simp -dsimp [go_sem, k3, kd, hc0, f1, f2, f3]
        refine SPL_intro (fun q3 => ?_) (fun q3 => ?_) <;> simp at q3
        · have q3' : 0 < g.prods[0].2.1.length := by omega
          obtain ⟨b6, o6, rfl, hb6, e1, e2⟩ := Go.Px.ints_at fr q3'
          simp at e1
          simp -dsimp [go_sem, k3, kd, hc0, f1, f2, f3, q3', e1]
          have hl1 : g.prods[0].2.1 = [g.prods[0].2.1[0]] := by
            apply List.ext_getElem?
            intro i
            cases i with
            | zero => simp [List.getElem?_eq_getElem q3']
            | succ i => simp; omega
          refine SPL_intro (fun q4 => ?_) (fun q4 => ?_) <;> simp at q4
          · simp -dsimp [go_sem, k3, kd, hc0, f1, f2, f3, q3']
            refine fin _ ?_
            rw [beq_iff_eq]
            constructor
            · intro e
              refine Prod.ext q2 (Prod.ext ?_ e)
              show g.prods[0].2.1 = [g.start]
              rw [hl1, q4]
            · intro e; rw [e]
          · refine fin false ⟨fun h => (by cases h), fun e => ?_⟩
            refine absurd ?_ q4
            have e2 : g.prods[0].2.1 = [g.start] := by rw [e]
            simp only [e2, List.getElem_cons_zero]
        · refine fin false ⟨fun h => (by cases h), fun e => ?_⟩
          rw [e] at q3; simp at q3
      · refine fin false ⟨fun h => (by cases h), fun e => ?_⟩
        rw [e] at q2; exact absurd rfl q2
end Go.Proofs.Ytkacbjhiobnbfaa

/-
  tree: Derives.
-/
namespace Go.Px.Scan
open Go.Px Go.RowKit
def eqF (p : Int → Int → Bool) (a b : List Int) : Bool := decide (a.length = b.length) && (a.zip b).all fun x => p x.1 x.2
/-- Is a node made by its production? -/
def joinP (g : Gr) (l : List Nd) (x : Nd) : Prop := x.2.1 < g.prods.length ∧ (g.prods.getD x.2.1.toNat (0, [], 0)).1 = x.1 ∧ eqF (fun s k => decide (0 ≤ k ∧ k < l.length ∧ (l.getD k.toNat zN).1 = s)) (g.prods.getD x.2.1.toNat (0, [], 0)).2.1 x.2.2.2 = true
instance (g : Gr) (l : List Nd) (x : Nd) : Decidable (joinP g l x) := inferInstanceAs (Decidable (_ ∧ _))
/-- Is a leaf the row's next? -/
def leafP (g : Gr) (row : List Int) (at' : Nat) (x : Nd) : Prop := 0 < x.1 ∧ x.1 < g.terms.length ∧ at' < row.length ∧ row.getD at' 0 = x.1 ∧ x.2.2.1 = at'
instance (g : Gr) (row : List Int) (at' : Nat) (x : Nd) : Decidable (leafP g row at' x) := inferInstanceAs (Decidable (_ ∧ _))
def deV (g : Gr) (l : List Nd) (row : List Int) (s : Nat) (n : Nat) : Option Nat :=
  if (l.getD n zN).2.1 < 0 then (if leafP g row s (l.getD n zN) then some (s + 1) else none) else if joinP g l (l.getD n zN) then some s else none
theorem deV_len {g : Gr} {l : List Nd} {row : List Int} (s n s' : Nat) (h : deV g l row s n = some s') : s' ≤ s + 1 := by
  unfold deV at h
  split at h
  · split at h
    · injection h with h; omega
    · cases h
  · split at h
    · injection h with h; omega
    · cases h
def proofC (pv pb : Nat) (vs : List Value) (s : Nat) : Ch := Ch.ex fun _ : Unit => Ch.all [boxC pv 119 [.pointer (some ⟨pb, 0, none⟩)], boxC pb 121 (vs ++ [.int .i64 s])]
end Go.Px.Scan
namespace Go.Proofs.Ytkacbjhiobnbfaa
open Go.Px Go.Px.Scan Go.RowKit
set_option maxHeartbeats 1000000
set_option linter.unusedSimpArgs false
set_option linter.unusedVariables false
set_option maxRecDepth 100000
attribute [-go_sem] Builtin.append_ tree_proof_leaf.b2 tree_Derives.b5 tree_Derives.b3

theorem EqualFuncI_ct {w : World} {B : Nat} {va vb : Value} {a b : List Int} (ha : (rSlice rInt).at1 w B va a) (hb : (rSlice rInt).at1 w B vb b) {g : FuncId} {first cap : Array Value} {p : Int → Int → Bool}
    (hp : ∀ x y, inI64 x → inI64 y → Ct Try.prog g (first.toList ++ [Value.int .i64 x, Value.int .i64 y] ++ cap.toList).toArray w fun v w' => v = .bool (p x y) ∧ w = w') :
    Ct Try.prog slices_EqualFunc_int_int_int_int.id #[va, vb, .func (.func g) first cap] w fun r w' => r = .bool (eqF p a b) ∧ w = w' := by
  refine slices_EqualFunc_int_int_int_int.ct fun R hR => ?_
  obtain ⟨A, c, rfl, hl, hm, _⟩ := slice_form ha
  obtain ⟨A', c', rfl, hl', hm', _⟩ := slice_form hb
  unfold slices_EqualFunc_int_int_int_int.run
  simp -dsimp [go_sem]
  refine SPL_intro (fun p1 => ?_) (fun p1 => ?_) <;> simp at p1
  · have p1 : ¬ a.length = b.length := by omega
    exact hR _ _ ⟨by simp [eqF, p1], rfl⟩
  · simp -dsimp [go_sem]
    refine slices_EqualFunc_int_int_int_int.l6_intro _ _ _ _ _ _ _ (fun x w1 => ∃ k : Nat, x = .int .i64 k ∧ k ≤ a.length ∧ (((a.zip b).take k).all fun x => p x.1 x.2) = true ∧ w = w1) (fun x _ => a.length - iv x) ⟨0, rfl, by omega, by simp, rfl⟩ ?_
    rintro _ _ ⟨k, rfl, hk, hall, rfl⟩ C hC
    simp -dsimp [go_sem]
    refine SPL_intro (fun h2 => ?_) (fun h2 => ?_) <;> simp at h2
    · have hkb : k < b.length := by omega
      obtain ⟨b1, o1, rfl, hb1, hc1, hr1⟩ := Go.Px.ints_at ha h2
      obtain ⟨b2, o2, rfl, hb2, hc2, hr2⟩ := Go.Px.ints_at hb hkb
      have wk := wrap_succ h2 (Nat.le_trans hl hm)
      simp -dsimp [go_sem, h2, hc1, hc2, hkb]
      refine CALLY_of (hp a[k] b[k] hr1 hr2) ?_
      rintro _ _ ⟨rfl, rfl⟩
      have hz : (a.zip b)[k]'(by simp; omega) = (a[k], b[k]) := by simp
      cases h3 : p a[k] b[k] with
      | true =>
        simp -dsimp [go_sem, wk]
        refine hC _ _ ⟨k + 1, by simp, by omega, ?_, rfl⟩ (by simp [iv]; omega)
        rw [List.take_succ_eq_append_getElem (by simp; omega), List.all_append, hall, hz]
        simp [h3]
      | false =>
        simp -dsimp [go_sem, wk]
        refine hR _ _ ⟨?_, rfl⟩
        have : (a.zip b).all (fun x => p x.1 x.2) = false := by
          rw [List.all_eq_false]
          exact ⟨(a[k], b[k]), by rw [← hz]; exact List.getElem_mem _, by simp [h3]⟩
        simp [eqF, this]
    · have hka : k = a.length := by omega
      have : ((a.zip b).take k) = a.zip b := List.take_of_length_le (by simp; omega)
      rw [this] at hall
      simp -dsimp [go_sem]
      have p1 : a.length = b.length := by omega
      exact hR _ _ ⟨by simp [eqF, p1, hall], rfl⟩

theorem joined1_ct {w : World} {B q pb : Nat} {nv : Value} {l : List Nd} {s k : Int} (h1 : w.cell? ⟨q, 0, none⟩ = some (.pointer (some ⟨pb, 0, none⟩))) (h2 : w.cell? ⟨pb, 5, none⟩ = some nv) (h : (rSlice rNd).at1 w B nv l) :
    Ct Try.prog tree_proof_joined_1.id #[.int .i64 s, .int .i64 k, .pointer (some ⟨q, 0, none⟩)] w fun v w' => v = .bool (decide (0 ≤ k ∧ k < l.length ∧ (l.getD k.toNat zN).1 = s)) ∧ w = w' := by
  refine tree_proof_joined_1.ct fun R hR => ?_
  obtain ⟨A, c, rfl, hl1, hl2, _⟩ := slice_form h
  unfold tree_proof_joined_1.run
  simp -dsimp [go_sem]
  refine SPL_intro (fun p1 => ?_) (fun p1 => ?_) <;> simp at p1
  · simp -dsimp [go_sem, h1, h2]
    refine SPL_intro (fun p2 => ?_) (fun p2 => ?_) <;> simp at p2
    · have hkl : k.toNat < l.length := by omega
      obtain ⟨bp, op, vr, ep, hbp, x1, _⟩ := nodes_at h hkl
      subst ep
      have e : l.getD k.toNat zN = l[k.toNat] := by simp [hkl]
      simp -dsimp [go_sem, h1, h2, p1, p2, x1]
      refine hR _ _ ⟨?_, rfl⟩
      congr 1
      rw [Bool.eq_iff_iff]
      simp [p1, p2]
    · exact hR _ _ ⟨by rw [decide_eq_false]; omega, rfl⟩
  · exact hR _ _ ⟨by rw [decide_eq_false]; omega, rfl⟩

theorem joined_ct {W w : World} {B n pb : Nat} {nv : Value} {l : List Nd} {g : Gr} {v1 v2 v3 v4 v6 v7 : Value} {A4 : Option Addr} {c4 : Nat} {vx : Value} {x : Nd} {L : List Ch} {G : Nat → Prop}
    (s : St G W w L) {k : Nat} (hk : L[k]? = some (boxC pb 121 [v1, v2, v3, v4, .slice A4 g.prods.length c4, nv, v6, v7]))
    (h : (rSlice rNd).at1 w B nv l) (h4 : (rSlice rPr).at1 w B (.slice A4 g.prods.length c4) g.prods) (hvx : rNd.atN w B vx x) (hB : B ≤ w.heap.size) (hx : okN n x) (hp : 0 ≤ x.2.1) :
    Ct Try.prog tree_proof_joined.id #[.pointer (some ⟨pb, 0, none⟩), vx] w fun v w' => v = .bool (decide (joinP g l x)) ∧ Chg noB w w' := by
  refine tree_proof_joined.ct fun R hR => ?_
  obtain ⟨A, c, rfl, hkr, z1, z2, z3⟩ := nd_form hvx
  obtain ⟨sy, pr, tk, ks⟩ := x
  simp only at *
  have s1 := s.alloc #[.pointer (some ⟨pb, 0, none⟩)] 119
  have s2 := (s1.alloc #[.int .i64 sy, .int .i64 pr, .int .i64 tk, .slice A ks.length c] 61)
  have hs1 : (w.alloc (.cells #[.pointer (some ⟨pb, 0, none⟩)] 119)).heap.size = w.heap.size + 1 := by simp
  rw [hs1] at s2
  have hc2 : Chg noB w ((w.alloc (.cells #[.pointer (some ⟨pb, 0, none⟩)] 119)).alloc (.cells #[.int .i64 sy, .int .i64 pr, .int .i64 tk, .slice A ks.length c] 61)) := ((Chg.refl noB w).alloc _).alloc _
  have hkl := (List.getElem?_eq_some_iff.1 hk).1
  have b0 := s2.box k (by rw [List.append_assoc, List.getElem?_append_left hkl]; exact hk)
  have b1 := s2.box L.length (by rw [List.append_assoc, List.getElem?_append_right (Nat.le_refl _)]; simp; rfl)
  have b2 := s2.box (L.length + 1) (by rw [List.append_assoc, List.getElem?_append_right (by omega)]; simp; rfl)
  have y4 : ((w.alloc (.cells #[.pointer (some ⟨pb, 0, none⟩)] 119)).alloc (.cells #[.int .i64 sy, .int .i64 pr, .int .i64 tk, .slice A ks.length c] 61)).cell? ⟨pb, 4, none⟩ = some (.slice A4 g.prods.length c4) := b0.1.2.2.2.2.1
  unfold tree_proof_joined.run
  simp -dsimp [go_sem, y4]
  clear y4 s1 hs1
  generalize w.heap.size = q at s2 b1 b2 ⊢
  generalize ((w.alloc (.cells #[.pointer (some ⟨pb, 0, none⟩)] 119)).alloc (.cells #[.int .i64 sy, .int .i64 pr, .int .i64 tk, .slice A ks.length c] 61)) = w2 at s2 hc2 b0 b1 b2 ⊢
  simp [boxAt] at b0 b1 b2
  refine SPL_intro (fun p1 => ?_) (fun p1 => ?_) <;> simp at p1
  · obtain ⟨j, rfl⟩ : ∃ j : Nat, pr = j := ⟨pr.toNat, by omega⟩
    have hj : j < g.prods.length := by omega
    have h4' := Rep.below h4 (hc2.below hB fun _ _ => id)
    obtain ⟨bp, op, vr, ep, hbp, x1, x2, x3, hr, _⟩ := prods_at h4' hj
    subst ep
    have e : g.prods.getD ((j : Int)).toNat (0, [], 0) = g.prods[j] := by simp [hj]
    simp -dsimp [go_sem, b0, b1, b2, hj, x1, x2]
    refine SPL_intro (fun p2 => ?_) (fun p2 => ?_) <;> simp at p2
    · simp -dsimp [go_sem, b0, b1, b2, hj, x1, x2]
      have hd : Chg noB w2 w2.drew := (Chg.refl _ _).drew
      refine CALL_of (EqualFuncI_ct (B := B) (cap := #[.pointer (some ⟨q, 0, none⟩)]) (Rep.below hr (hd.below (by have := hc2.size; omega) fun _ _ => id)) (Rep.below hkr ((hc2.trans hd).below hB fun _ _ => id)) fun x y _ _ => joined1_ct (B := B) (nv := nv) (pb := pb) ?_ ?_ (Rep.below h ((hc2.trans hd).below hB fun _ _ => id))) ?_
      · simp [b1]
      · simp [b0]
      rintro _ _ ⟨rfl, rfl⟩
      refine hR _ _ ⟨?_, hc2.trans hd⟩
      congr 1
      rw [Bool.eq_iff_iff]
      simp only [joinP, e, decide_eq_true_eq]
      simp [hj, p2]
    · refine hR _ _ ⟨?_, hc2.drew⟩
      rw [decide_eq_false]
      simp only [joinP, e]
      rintro ⟨_, h2, _⟩
      exact p2 h2
  · refine hR _ _ ⟨?_, hc2.drew⟩
    rw [decide_eq_false]
    rintro ⟨h1, _⟩
    simp at h1; omega

theorem leaf_ct {W w : World} {B pb at' : Nat} {g : Gr} {v2 v3 v4 v5 v6 : Value} {A1 A6 : Option Addr} {c1 c6 : Nat} {row : List Int} {vx : Value} {x : Nd} {L : List Ch} {G : Nat → Prop}
    (s : St G W w L) {k : Nat} (hk : L[k]? = some (boxC pb 121 [.slice A1 g.terms.length c1, v2, v3, v4, v5, v6, .slice A6 row.length c6, .int .i64 at']))
    (h : (rSlice rInt).at1 w B (.slice A6 row.length c6) row) (hvx : rNd.atN w B vx x) (hB : B ≤ w.heap.size) (hat : at' ≤ 3000000000000) :
    Ct Try.prog tree_proof_leaf.id #[.pointer (some ⟨pb, 0, none⟩), vx] w fun v w' => v = .bool (decide (leafP g row at' x)) ∧ St G W w' (L.set k (boxC pb 121 [.slice A1 g.terms.length c1, v2, v3, v4, v5, v6, .slice A6 row.length c6, .int .i64 ((at' + 1 : Nat) : Int)])) := by
  refine tree_proof_leaf.ct fun R hR => ?_
  obtain ⟨A, c, rfl, hkr, z1, z2, z3⟩ := nd_form hvx
  obtain ⟨sy, pr, tk, ks⟩ := x
  simp only at *
  have s1 := s.alloc #[.int .i64 sy, .int .i64 pr, .int .i64 tk, .slice A ks.length c] 61
  have hc1 : Chg noB w (w.alloc (.cells #[.int .i64 sy, .int .i64 pr, .int .i64 tk, .slice A ks.length c] 61)) := (Chg.refl noB w).alloc _
  have hkl := (List.getElem?_eq_some_iff.1 hk).1
  unfold tree_proof_leaf.run
  simp -dsimp [go_sem]
  generalize w.heap.size = q at s1 ⊢
  generalize w.alloc (.cells #[.int .i64 sy, .int .i64 pr, .int .i64 tk, .slice A ks.length c] 61) = w1 at s1 hc1 ⊢
  have hk1 : (L ++ [boxC q 61 #[.int .i64 sy, .int .i64 pr, .int .i64 tk, .slice A ks.length c].toList])[k]? = some (boxC pb 121 [.slice A1 g.terms.length c1, v2, v3, v4, v5, v6, .slice A6 row.length c6, .int .i64 at']) := by
    rw [List.getElem?_append_left hkl]; exact hk
  have b0 := s1.box k hk1
  have b1 := s1.box L.length (by rw [List.getElem?_append_right (Nat.le_refl _)]; simp; rfl)
  simp [boxAt] at b0 b1
  have fin : ∀ (p : Bool), p = decide (leafP g row at' (sy, pr, tk, ks)) → tree_proof_leaf.b2 R (.pointer (some ⟨pb, 0, none⟩)) (.bool p) w1.drew := by
    rintro p rfl
    have wa : IntKind.i64.wrap ((at' : Int) + 1) = (at' : Int) + 1 := IntWalk.i64_in _ (by omega)
    have s2 := (s1.set k hk1 7 (.int .i64 ((at' + 1 : Nat) : Int))).old (Chg.refl noB _).drew
    have s3 := s2.take L.length
    have e : ((L ++ [boxC q 61 #[.int .i64 sy, .int .i64 pr, .int .i64 tk, .slice A ks.length c].toList]).set k (boxC pb 121 ([.slice A1 g.terms.length c1, v2, v3, v4, v5, v6, .slice A6 row.length c6, .int .i64 at'].set 7 (.int .i64 ((at' + 1 : Nat) : Int))))).take L.length = L.set k (boxC pb 121 [.slice A1 g.terms.length c1, v2, v3, v4, v5, v6, .slice A6 row.length c6, .int .i64 ((at' + 1 : Nat) : Int)]) := by
      rw [List.set_append_left _ _ hkl, List.take_left' (by simp)]; rfl
    rw [e] at s3
    unfold tree_proof_leaf.b2
    simp -dsimp [go_sem, b0, wa]
    exact hR _ _ ⟨rfl, by simpa using s3⟩
  refine SPL_intro (fun p1 => ?_) (fun p1 => ?_) <;> simp at p1
  · simp -dsimp [go_sem, b0, b1]
    refine SPL_intro (fun p2 => ?_) (fun p2 => ?_) <;> simp at p2
    · simp -dsimp [go_sem, b0, b1]
      refine SPL_intro (fun p3 => ?_) (fun p3 => ?_) <;> simp at p3
      · obtain ⟨br, or', e6, hbr, x1, _⟩ := Go.Px.ints_at (Rep.below h (hc1.below hB fun _ _ => id)) p3
        subst e6
        simp -dsimp [go_sem, b0, b1, p3, x1]
        refine SPL_intro (fun p4 => ?_) (fun p4 => ?_) <;> simp at p4
        · simp -dsimp [go_sem, b0, b1]
          refine fin _ ?_
          rw [Bool.eq_iff_iff]
          simp [leafP, p1, p2, p3, p4]
        · refine fin _ (decide_eq_false ?_).symm
          rintro ⟨_, _, _, h4, _⟩
          simp [p3] at h4; exact p4 h4
      · refine fin _ (decide_eq_false ?_).symm
        rintro ⟨_, _, h3, _⟩; omega
    · refine fin _ (decide_eq_false ?_).symm
      rintro ⟨_, h2, _⟩; simp at h2; omega
  · refine fin _ (decide_eq_false ?_).symm
    rintro ⟨h1, _⟩; simp at h1; omega

theorem nd_below {w w' : World} {B : Nat} {v : Value} {x : Nd} (h : rNd.atN w B v x) (hc : Chg noB w w') (hB : B ≤ w.heap.size) : rNd.atN w' B v x := by
  obtain ⟨cs, rfl, hc'⟩ := h
  exact ⟨cs, rfl, rNd.keep hc' (Nat.le_refl _) (hc.below hB fun _ _ => id).block⟩
theorem Derives1_ok {W : World} {B pv pb : Nat} {l : List Nd} {g : Gr} {row : List Int} {nv v2 v3 v4 : Value} {A1 A4 A6 : Option Addr} {c1 c4 c6 : Nat} (hN : l.length ≤ 3000000000000) (hB : B ≤ W.heap.size)
    (hn : (rSlice rNd).at1 W B nv l) (h4 : (rSlice rPr).at1 W B (.slice A4 g.prods.length c4) g.prods) (h6 : (rSlice rInt).at1 W B (.slice A6 row.length c6) row) :
    VisOk W B l (proofC pv pb [.slice A1 g.terms.length c1, v2, v3, v4, .slice A4 g.prods.length c4, nv, .slice A6 row.length c6]) (deV g l row) 0 tree_Derives_1.id [.pointer (some ⟨pv, 0, none⟩)] := by
  intro w L k s n r vx st hk hlk hnd hlt hok hvx
  have hsl : s ≤ 0 + 1 * r.length := looks_bound (fun s => s) deV_len r _ _ hlk
  have hrl := visit_lt hnd hlt
  have hBw : B ≤ w.heap.size := by have := st.chg.size; omega
  obtain ⟨F, ⟨⟩, si, hch, hback⟩ := st.inEx hk
  refine tree_Derives_1.ct fun R hR => ?_
  unfold deV at hR
  obtain ⟨A, c, rfl, hkr, z1, z2, z3⟩ := nd_form hvx
  generalize hx : l.getD n zN = x at *
  obtain ⟨sy, pr, tk, ks⟩ := x
  simp only at *
  have s1 := si.alloc #[.int .i64 sy, .int .i64 pr, .int .i64 tk, .slice A ks.length c] 61
  have hc1 : Chg noB w (w.alloc (.cells #[.int .i64 sy, .int .i64 pr, .int .i64 tk, .slice A ks.length c] 61)) := (Chg.refl noB w).alloc _
  unfold tree_Derives_1.run
  simp -dsimp [go_sem]
  generalize w.heap.size = q at s1 ⊢
  generalize w.alloc (.cells #[.int .i64 sy, .int .i64 pr, .int .i64 tk, .slice A ks.length c] 61) = w1 at s1 hc1 ⊢
  have b0 := s1.box 0 rfl
  have b1 := s1.box 2 rfl
  simp [boxAt] at b0 b1
  have hW1 : Chg noB W w1 := hch _ _ s1
  have hB1 : B ≤ w1.heap.size := by have := hW1.size; omega
  have rb : Below B W w1 := hW1.below hB fun _ _ => id
  refine SPL_intro (fun p1 => ?_) (fun p1 => ?_) <;> simp at p1
  · simp -dsimp [go_sem, b0, b1]
    refine CALL_of (leaf_ct s1 (k := 1) (g := g) (at' := s) rfl (Rep.below h6 rb) (nd_below hvx hc1 hBw) hB1 (by omega)) ?_
    rintro _ w2 ⟨rfl, s2⟩
    refine hR _ _ ?_
    rw [if_pos p1]
    by_cases hl : leafP g row s (sy, pr, tk, ks)
    · rw [if_pos hl, decide_eq_true hl]
      exact ⟨rfl, hback _ (fun _ => [boxC pv 119 [.pointer (some ⟨pb, 0, none⟩)], boxC pb 121 ([.slice A1 g.terms.length c1, v2, v3, v4, .slice A4 g.prods.length c4, nv, .slice A6 row.length c6] ++ [.int .i64 ((s + 1 : Nat) : Int)])]) () (s2.take 2)⟩
    · rw [if_neg hl, decide_eq_false hl]
      exact ⟨rfl, hch _ _ s2⟩
  · simp -dsimp [go_sem, b0, b1]
    refine CALL_of (joined_ct s1 (k := 1) rfl (Rep.below hn rb) (Rep.below h4 rb) (nd_below hvx hc1 hBw) hB1 hok p1) ?_
    rintro _ w2 ⟨rfl, hc2⟩
    refine hR _ _ ?_
    rw [if_neg (by omega)]
    by_cases hl : joinP g l (sy, pr, tk, ks)
    · rw [if_pos hl, decide_eq_true hl]
      exact ⟨rfl, hback _ _ () ((s1.old hc2).take 2)⟩
    · rw [if_neg hl, decide_eq_false hl]
      exact ⟨rfl, hW1.trans hc2⟩

theorem aProof (A1 A2 A3 A4 A5 A6 : Option Addr) (n1 c1 n2 c2 n3 c3 n4 c4 n5 c5 n6 c6 : Nat) (x : Int) (w : World) :
    (Instr.build 121 #[(0, .agg #[.slice A1 n1 c1, .slice A2 n2 c2, .slice A3 n3 c3, .int .i64 x, .slice A4 n4 c4]), (1, .slice A5 n5 c5), (2, .slice A6 n6 c6)]).run Try.prog w = .ok (.agg #[.slice A1 n1 c1, .slice A2 n2 c2, .slice A3 n3 c3, .int .i64 x, .slice A4 n4 c4, .slice A5 n5 c5, .slice A6 n6 c6, .int .i64 0]) w := by
  simp [go_sem, cells_slice]
attribute [go_sem ↓] aProof
/-- Does a tree derive a row? -/
noncomputable def deriveB (g : Gr) (l : List Nd) (root : Int) (row : List Int) : Bool :=
  closedB g && decide (0 ≤ root ∧ root < l.length ∧ (l.getD root.toNat zN).1 = g.start ∧ 0 ≤ (l.getD root.toNat zN).2.1) && decide (lookP l false (deV g l row) 0 root = some row.length)
theorem Derives_ct {w : World} {B : Nat} {vg nv vr : Value} {l : List Nd} {g : Gr} {row : List Int} {root : Int} (hg : rGram.atN w B vg g) (h : (rSlice rNd).at1 w B nv l) (hrow : (rSlice rInt).at1 w B vr row) (hB : B ≤ w.heap.size) (hN : l.length ≤ 3000000000000) (hkd : ∀ x ∈ l, x.2.2.2.length * 8 ≤ maxBytes) (hr : inI64 root) :
    Ct Try.prog tree_Derives.id #[vg, nv, .int .i64 root, vr] w fun v w' => v = .bool (deriveB g l root row) ∧ Chg noB w w' := by
  refine tree_Derives.ct fun R hR => ?_
  obtain ⟨A1, c1, A2, c2, A3, c3, A4, c4, rfl, h1, h2, h3, hst, h4, k1, k2, k3, k4⟩ := (rGram_open hg).ex
  obtain ⟨A6, c6, rfl, hr1, hr2, _⟩ := slice_form hrow
  obtain ⟨A, cn, rfl, hl1, hl2, _⟩ := slice_form h
  have s0 := (St.refl noB w).alloc #[.slice A1 g.terms.length c1, .slice A2 g.nons.length c2, .slice A3 g.levels.length c3, .int .i64 g.start, .slice A4 g.prods.length c4] 27
  unfold tree_Derives.run
  simp -dsimp [go_sem]
  generalize w.heap.size = q at s0 ⊢
  generalize w.alloc (.cells #[.slice A1 g.terms.length c1, .slice A2 g.nons.length c2, .slice A3 g.levels.length c3, .int .i64 g.start, .slice A4 g.prods.length c4] 27) = w1 at s0 ⊢
  have sd := s0.old (Chg.refl noB _).drew
  refine CALL_of (Closed_ct (rGram_below hg (sd.chg.below hB fun _ _ => id)) (by have := sd.chg.size; omega)) ?_
  rintro _ w3 ⟨rfl, hc3⟩
  have s3 := sd.old hc3
  have b0 := s3.box 0 rfl
  simp [boxAt] at b0
  have rb : ∀ {w'}, Chg noB w w' → Below B w w' := fun hc => hc.below hB fun _ _ => id
  have hno' : ∀ {x1 x2 x3 x4}, deriveB g l root row = false → tree_Derives.b5 R x1 x2 x3 x4 (.bool true) w3 := fun hd => by
    unfold tree_Derives.b5
    simp -dsimp [go_sem]
    exact hR _ _ ⟨by rw [hd], s3.chg⟩
  cases hcl : closedB g with
  | false =>
    simp -dsimp [go_sem]
    exact hno' (by simp [deriveB, hcl])
  | true =>
    simp -dsimp [go_sem]
    refine SPL_intro (fun p1 => ?_) (fun p1 => ?_) <;> simp at p1
    · exact hno' (by have : ¬ 0 ≤ root := by omega
                     simp [deriveB, this])
    · simp -dsimp [go_sem]
      refine SPL_intro (fun p2 => ?_) (fun p2 => ?_) <;> simp at p2
      · exact hno' (by have : ¬ root < l.length := by omega
                       simp [deriveB, this])
      · obtain ⟨q', rfl⟩ : ∃ q' : Nat, root = q' := ⟨root.toNat, by omega⟩
        have hql : q' < l.length := by omega
        obtain ⟨bp, op, vr, ep, hbp, x1, x2, _⟩ := nodes_at (Rep.below h (rb s3.chg)) hql
        subst ep
        have e : l.getD ((q' : Int)).toNat zN = l[q'] := by simp [hql]
        simp -dsimp [go_sem, hql, x1, x2, b0]
        refine SPL_intro (fun p3 => ?_) (fun p3 => ?_) <;> simp at p3
        · exact hno' (by simp only [deriveB, e]; simp [p3])
        · simp -dsimp [go_sem, hql, x1, x2, b0]
          unfold tree_Derives.b5
          refine SPL_intro (fun p4 => ?_) (fun p4 => ?_) <;> simp at p4
          · exact hR _ _ ⟨by have : ¬ 0 ≤ l[q'].2.1 := by omega
                             simp only [deriveB, e]; simp [this], s3.chg⟩
          · have hdr : deriveB g l q' row = decide (lookP l false (deV g l row) 0 q' = some row.length) := by
              simp only [deriveB, e, hcl]; simp [p3, p4, hql]
            rw [hdr] at hR
            unfold tree_Derives.b3
            have s4 := (s3.alloc #[.slice A1 g.terms.length c1, .slice A2 g.nons.length c2, .slice A3 g.levels.length c3, .int .i64 g.start, .slice A4 g.prods.length c4, .slice (some ⟨bp, op, none⟩) l.length cn, .slice A6 row.length c6, .int .i64 0] 121).alloc #[.pointer (some ⟨w3.heap.size, 0, none⟩)] 119
            have hs4 : (w3.alloc (.cells #[.slice A1 g.terms.length c1, .slice A2 g.nons.length c2, .slice A3 g.levels.length c3, .int .i64 g.start, .slice A4 g.prods.length c4, .slice (some ⟨bp, op, none⟩) l.length cn, .slice A6 row.length c6, .int .i64 0] 121)).heap.size = w3.heap.size + 1 := by simp
            rw [hs4] at s4
            simp -dsimp [go_sem, b0]
            clear hs4
            generalize hw4 : (w3.alloc (.cells #[.slice A1 g.terms.length c1, .slice A2 g.nons.length c2, .slice A3 g.levels.length c3, .int .i64 g.start, .slice A4 g.prods.length c4, .slice (some ⟨bp, op, none⟩) l.length cn, .slice A6 row.length c6, .int .i64 0] 121)).alloc (.cells #[.pointer (some ⟨w3.heap.size, 0, none⟩)] 119) = w4 at s4 ⊢
            clear hw4
            generalize w3.heap.size = pb at s4 ⊢
            have s5 : St noB w w4 [proofC (pb + 1) pb [.slice A1 g.terms.length c1, .slice A2 g.nons.length c2, .slice A3 g.levels.length c3, .int .i64 g.start, .slice A4 g.prods.length c4, .slice (some ⟨bp, op, none⟩) l.length cn, .slice A6 row.length c6] 0] := by
              unfold proofC
              exact St.pack (f := fun _ : Unit => [boxC (pb + 1) 119 [.pointer (some ⟨pb, 0, none⟩)], boxC pb 121 ([.slice A1 g.terms.length c1, .slice A2 g.nons.length c2, .slice A3 g.levels.length c3, .int .i64 g.start, .slice A4 g.prods.length c4, .slice (some ⟨bp, op, none⟩) l.length cn, .slice A6 row.length c6] ++ [.int .i64 ((0 : Nat) : Int)])]) () (s4.pick [2, 1] (by decide) rfl)
            refine CALL_of (below_ct (ca := #[.pointer (some ⟨pb + 1, 0, none⟩)]) h hB hN hkd s5 (left_ok w) (Derives1_ok hN hB h h4 hrow) hr) ?_
            intro v w5 hp
            cases hl : lookP l false (deV g l row) 0 q' with
            | none =>
              rw [hl] at hp hR
              obtain ⟨rfl, hc5⟩ := hp
              simp -dsimp [go_sem]
              exact hR _ _ ⟨by simp, hc5⟩
            | some r =>
              rw [hl] at hp hR
              obtain ⟨rfl, s6⟩ := hp
              obtain ⟨⟨⟩, s7⟩ := s6.unpack
              have y0 := s7.box 0 rfl
              have y1 := s7.box 1 rfl
              simp [boxAt] at y0 y1
              simp -dsimp [go_sem, y0, y1]
              refine hR _ _ ⟨?_, s7.chg⟩
              congr 1
              rw [Bool.eq_iff_iff]
              simp; omega
end Go.Proofs.Ytkacbjhiobnbfaa

/-
  A tree's nodes, from the left and from the right; replacing the last nonterminal.
-/
namespace Go.Px.Scan
open Go.Px
/-- A forest: its first tree's node, the forest below it, the others. -/
inductive Fo | nil | node (n : Nat) (k r : Fo)
def Fo.app : Fo → Fo → Fo
  | .nil, b => b
  | .node n k r, b => .node n k (r.app b)
def Fo.pre : Fo → List Nat
  | .nil => []
  | .node n k r => n :: (k.pre ++ r.pre)
def Fo.preR : Fo → List Nat
  | .nil => []
  | .node n k r => r.preR ++ n :: k.preR
/-- The forest of a row of nodes. -/
def unF (l : List Nd) : List Nat → Fo → Prop
  | ws, .nil => ws = []
  | ws, .node n k r => ∃ ws', ws = n :: ws' ∧ unF l (kidsN (l.getD n zN)) k ∧ unF l ws' r
theorem Fo.pre_app : ∀ a b : Fo, (a.app b).pre = a.pre ++ b.pre
  | .nil, b => rfl
  | .node n k r, b => by simp [Fo.app, Fo.pre, Fo.pre_app r b]
theorem Fo.preR_app : ∀ a b : Fo, (a.app b).preR = b.preR ++ a.preR
  | .nil, b => by simp [Fo.app, Fo.preR]
  | .node n k r, b => by simp [Fo.app, Fo.preR, Fo.preR_app r b]
theorem Fo.perm : ∀ a : Fo, a.preR.Perm a.pre
  | .nil => List.Perm.refl _
  | .node n k r => by
    show (r.preR ++ n :: k.preR).Perm (n :: (k.pre ++ r.pre))
    refine List.perm_append_comm.trans ?_
    exact List.Perm.cons n ((k.perm).append (r.perm))
section
variable {l : List Nd}
theorem unF_app : ∀ {a b : List Nat} {A B : Fo}, unF l a A → unF l b B → unF l (a ++ b) (A.app B)
  | a, b, .nil, B, h1, h2 => by have h1 : a = [] := h1; subst h1; exact h2
  | a, b, .node n k r, B, h1, h2 => by
    obtain ⟨ws, rfl, h3, h4⟩ := h1
    exact ⟨ws ++ b, rfl, h3, unF_app h4 h2⟩
theorem unF_split : ∀ {a b : List Nat} {F : Fo}, unF l (a ++ b) F → ∃ A B, F = A.app B ∧ unF l a A ∧ unF l b B
  | [], b, F, h => ⟨.nil, F, rfl, rfl, h⟩
  | x :: a, b, .nil, h => by cases (show x :: a ++ b = [] from h)
  | x :: a, b, .node n k r, h => by
    obtain ⟨ws, e, h1, h2⟩ := h
    injection e with e1 e2
    subst e1 e2
    obtain ⟨A, B, rfl, h3, h4⟩ := unF_split h2
    exact ⟨.node x k A, B, rfl, ⟨a, rfl, h1, h3⟩, h4⟩
theorem unF_roots : ∀ {a : List Nat} {F : Fo}, unF l a F → a.Sublist F.pre
  | a, .nil, h => by have h : a = [] := h; subst h; exact List.Sublist.refl _
  | a, .node n k r, h => by
    obtain ⟨ws, rfl, h1, h2⟩ := h
    exact List.Sublist.cons_cons n ((unF_roots h2).trans (List.sublist_append_right _ _))
/-- A walk from the left has a forest. -/
theorem walk_forest : ∀ {f : Nat} {out ws r : List Nat}, walkF l false f out ws = some r → (out ++ ws).Nodup →
    ∃ F, unF l ws F ∧ r = out ++ F.pre ∧ (∀ n ∈ F.pre, okN n (l.getD n zN)) ∧ r.Nodup ∧ F.pre.length ≤ f
  | f, out, [], r, h, hn => by
    have : out = r := by cases f <;> (simp only [walkF] at h; exact Option.some.inj h)
    subst this
    exact ⟨.nil, rfl, by simp [Fo.pre], by simp [Fo.pre], by simpa using hn, by simp [Fo.pre]⟩
  | 0, out, n :: ws, r, h, hn => by simp [walkF] at h
  | f + 1, out, n :: ws, r, h, hn => by
    simp only [walkF] at h
    split at h
    · rename_i h1
      obtain ⟨h1, h2, h3⟩ := h1
      have hn2 : ((out ++ [n]) ++ (kidsN (l.getD n zN) ++ ws)).Nodup := by
        rw [List.nodup_append] at hn
        obtain ⟨k1, k2, k3⟩ := hn
        rw [List.nodup_cons] at k2
        rw [List.nodup_append, List.nodup_append, List.nodup_append]
        refine ⟨⟨k1, by simp, ?_⟩, ⟨h2, k2.2, ?_⟩, ?_⟩
        · intro a ha b hb; simp at hb; subst hb; exact k3 a ha _ (by simp)
        · intro a ha b hb e; subst e; exact h3 a ha (by simp [hb])
        · intro a ha b hb e
          subst e
          rcases List.mem_append.1 hb with hb1 | hb1
          · refine h3 a hb1 ?_
            rcases List.mem_append.1 ha with ha | ha
            · simp [ha]
            · simp at ha; simp [ha]
          · rcases List.mem_append.1 ha with ha | ha
            · exact k3 a ha a (by simp [hb1]) rfl
            · simp at ha; subst ha; exact k2.1 hb1
      obtain ⟨F, g1, g2, g3, g4, g5⟩ := walk_forest (ws := kidsN (l.getD n zN) ++ ws) h hn2
      obtain ⟨A, B, rfl, g6, g7⟩ := unF_split g1
      refine ⟨.node n A B, ⟨ws, rfl, g6, g7⟩, by rw [g2]; simp [Fo.pre, Fo.pre_app], ?_, g4, ?_⟩
      · intro m hm
        rcases List.mem_cons.1 hm with rfl | hm
        · exact h1
        · exact g3 m (by rw [Fo.pre_app]; exact hm)
      · rw [Fo.pre_app] at g5; simpa [Fo.pre] using g5
    · cases h
theorem fo_nil {F : Fo} (h : unF l [] F) : F = .nil := by
  cases F with
  | nil => rfl
  | node n k r => obtain ⟨ws, e, _⟩ := h; cases e
theorem fo_one {F : Fo} {n : Nat} (h : unF l [n] F) : ∃ K, F = .node n K .nil ∧ unF l (kidsN (l.getD n zN)) K := by
  cases F with
  | nil => cases (show [n] = [] from h)
  | node m k r =>
    obtain ⟨ws, e, h1, h2⟩ := h
    injection e with e1 e2
    subst e1 e2
    rw [fo_nil h2]
    exact ⟨k, rfl, h1⟩
/-- A forest is walked from the right. -/
theorem forest_walkR : ∀ {f : Nat} {out ws : List Nat} {F : Fo}, unF l ws.reverse F → (∀ n ∈ F.pre, okN n (l.getD n zN)) → (out ++ F.pre).Nodup → F.pre.length ≤ f → walkF l true f out ws = some (out ++ F.preR)
  | f, out, [], F, h, _, _, _ => by
    rw [fo_nil h]
    cases f <;> simp [walkF, Fo.preR]
  | f, out, n :: ws, F, h, hok, hnd, hl => by
    rw [List.reverse_cons] at h
    obtain ⟨A, B, rfl, hA, hB⟩ := unF_split h
    obtain ⟨K, rfl, hK⟩ := fo_one hB
    rw [Fo.pre_app] at hok hnd hl
    have ep : (Fo.node n K .nil).pre = n :: K.pre := by simp [Fo.pre]
    rw [ep] at hok hnd hl
    cases f with
    | zero => simp at hl
    | succ f =>
      simp only [walkF]
      have hrA : ∀ x ∈ ws, x ∈ A.pre := fun x hx => (unF_roots hA).subset (by simpa using hx)
      have hrK := unF_roots hK
      rw [List.nodup_append] at hnd
      obtain ⟨d1, d2, d3⟩ := hnd
      rw [List.nodup_append] at d2
      obtain ⟨d4, d5, d6⟩ := d2
      rw [List.nodup_cons] at d5
      have hfr : freshN (n :: (out ++ ws)) (kidsN (l.getD n zN)) := by
        refine ⟨hrK.nodup d5.2, ?_⟩
        intro k hk hm
        have hk2 := hrK.subset hk
        rcases List.mem_cons.1 hm with e | hm
        · subst e; exact d5.1 hk2
        · rcases List.mem_append.1 hm with hm | hm
          · exact d3 k hm k (by simp [hk2]) rfl
          · exact d6 k (hrA k hm) k (by simp [hk2]) rfl
      rw [if_pos ⟨hok n (by simp), hfr⟩]
      · have hu : unF l ((kidsN (l.getD n zN)).reverse ++ ws).reverse (A.app K) := by
          rw [List.reverse_append, List.reverse_reverse]
          exact unF_app hA hK
        have := forest_walkR (f := f) (out := out ++ [n]) hu (fun m hm => hok m (by rw [Fo.pre_app] at hm; rcases List.mem_append.1 hm with hm | hm <;> simp [hm])) ?_ (by rw [Fo.pre_app]; simp at hl ⊢; omega)
        · simp only [nextW, if_true]
          rw [this]
          simp [Fo.preR_app, Fo.preR]
        · rw [Fo.pre_app, List.nodup_append]
          refine ⟨?_, ?_, ?_⟩
          · rw [List.nodup_append]
            refine ⟨d1, by simp, fun a ha b hb => ?_⟩
            simp at hb; subst hb
            exact d3 a ha _ (by simp)
          · rw [List.nodup_append]
            exact ⟨d4, d5.2, fun a ha b hb => d6 a ha b (by simp [hb])⟩
          · intro a ha b hb e
            subst e
            rcases List.mem_append.1 ha with ha | ha
            · refine d3 a ha a ?_ rfl
              rcases List.mem_append.1 hb with hb | hb <;> simp [hb]
            · simp at ha; subst ha
              rcases List.mem_append.1 hb with hb1 | hb1
              · exact d6 a hb1 a (by simp) rfl
              · exact d5.1 hb1
end
end Go.Px.Scan

/-
  What a derivation's forest holds: its leaves are the row, its productions replay.
-/
namespace Go.Px.Scan
open Go.Px
section
variable {g : Gr} {l : List Nd} {row : List Int}
abbrev symN (l : List Nd) (n : Nat) : Int := (l.getD n zN).1
abbrev prodN (l : List Nd) (n : Nat) : Int := (l.getD n zN).2.1
/-- The leaves of nodes in order. -/
def leavesOf (l : List Nd) (ns : List Nat) : List Int := (ns.filter fun n => prodN l n < 0).map (symN l)
/-- The productions of nodes in order. -/
def prodsOf (l : List Nd) (ns : List Nat) : List Int := (ns.filter fun n => 0 ≤ prodN l n).map (prodN l)
theorem leavesOf_app (a b : List Nat) : leavesOf l (a ++ b) = leavesOf l a ++ leavesOf l b := by simp [leavesOf]
theorem leavesOf_leaf {n : Nat} (h : prodN l n < 0) (a : List Nat) : leavesOf l (n :: a) = symN l n :: leavesOf l a := by simp [leavesOf, h]
theorem leavesOf_join {n : Nat} (h : 0 ≤ prodN l n) (a : List Nat) : leavesOf l (n :: a) = leavesOf l a := by
  have : ¬ prodN l n < 0 := by omega
  simp [leavesOf, this]
theorem prodsOf_leaf {n : Nat} (h : prodN l n < 0) (a : List Nat) : prodsOf l (n :: a) = prodsOf l a := by
  have : ¬ 0 ≤ prodN l n := by omega
  simp [prodsOf, this]
theorem prodsOf_join {n : Nat} (h : 0 ≤ prodN l n) (a : List Nat) : prodsOf l (n :: a) = prodN l n :: prodsOf l a := by simp [prodsOf, h]
theorem looks_cons {σ : Type} {V : σ → Nat → Option σ} {s : σ} {n : Nat} {r : List Nat} : looks V s (n :: r) = (V s n).bind fun s => looks V s r := by
  cases h : V s n with
  | none => simp [looks, h, looks_none]
  | some s' => simp [looks, h]
theorem looks_fr : ∀ {ns : List Nat} {s : List Int}, looks (frV l) s ns = some (s ++ leavesOf l ns)
  | [], s => by simp [looks, leavesOf]
  | n :: ns, s => by
    rw [looks_cons]
    simp only [frV, Option.bind_some]
    rw [looks_fr]
    by_cases h : prodN l n < 0
    · rw [leavesOf_leaf h, if_pos h, List.append_assoc]; rfl
    · rw [leavesOf_join (Int.not_lt.1 h), if_neg h]
theorem looks_rm : ∀ {ns : List Nat} {s : List Int}, looks (rmV l) s ns = some (s ++ prodsOf l ns)
  | [], s => by simp [looks, prodsOf]
  | n :: ns, s => by
    rw [looks_cons]
    simp only [rmV, Option.bind_some]
    rw [looks_rm]
    by_cases h : 0 ≤ prodN l n
    · rw [prodsOf_join h, if_pos h, List.append_assoc]; rfl
    · rw [prodsOf_leaf (Int.not_le.1 h), if_neg h]
theorem getD_lt {α : Type} {l : List α} {i : Nat} (h : i < l.length) (d : α) : l.getD i d = l[i] := by
  rw [List.getD_eq_getElem?_getD, List.getElem?_eq_getElem h]; rfl
/-- Is a node one of a derivation? -/
structure NodeOk (g : Gr) (l : List Nd) (n : Nat) : Prop where
  leaf : prodN l n < 0 → 0 < symN l n ∧ symN l n < g.terms.length ∧ kidsN (l.getD n zN) = []
  join : 0 ≤ prodN l n → ∃ p, g.prods[(prodN l n).toNat]? = some p ∧ p.1 = symN l n ∧ p.2.1 = (kidsN (l.getD n zN)).map (symN l)
theorem eqF_map {l : List Nd} : ∀ {a ks : List Int}, eqF (fun s k => decide (0 ≤ k ∧ k < l.length ∧ (l.getD k.toNat zN).1 = s)) a ks = true → a = ks.map fun k => symN l k.toNat
  | [], [], _ => rfl
  | [], _ :: _, h => by simp [eqF] at h
  | _ :: _, [], h => by simp [eqF] at h
  | x :: a, k :: ks, h => by
    simp only [eqF, List.length_cons, List.zip_cons_cons, List.all_cons, Bool.and_eq_true, decide_eq_true_eq] at h
    obtain ⟨h1, ⟨_, _, h3⟩, h4⟩ := h
    rw [List.map_cons, ← eqF_map (a := a) (ks := ks) (by simp only [eqF, Bool.and_eq_true, decide_eq_true_eq]; exact ⟨by omega, h4⟩)]
    rw [← h3]
/-- The nodes that a derivation's walk looked at: how the places go on. -/
theorem looks_de : ∀ {ns : List Nat} {s s' : Nat}, looks (deV g l row) s ns = some s' → (∀ n ∈ ns, okN n (l.getD n zN) ∨ ∃ m, okN m (l.getD n zN)) →
    s' = s + (leavesOf l ns).length ∧ (leavesOf l ns = (row.drop s).take (leavesOf l ns).length ∧ s + (leavesOf l ns).length ≤ max s row.length) ∧ ∀ n ∈ ns, NodeOk g l n
  | [], s, s', h, _ => by
    simp [looks] at h
    subst h
    simp [leavesOf]
    omega
  | n :: ns, s, s', h, hk => by
    rw [looks_cons] at h
    have hok : ∃ m, okN m (l.getD n zN) := by
      rcases hk n (by simp) with h1 | h1
      · exact ⟨_, h1⟩
      · exact h1
    obtain ⟨m, hm⟩ := hok
    unfold deV at h
    split at h
    · rename_i hp
      split at h
      · rename_i hl
        obtain ⟨l1, l2, l3, l4, l5⟩ := hl
        simp only [Option.bind_some] at h
        obtain ⟨e1, ⟨e2, e3⟩, e4⟩ := looks_de h fun n hn => hk n (by simp [hn])
        rw [leavesOf_leaf hp]
        have hd : row.drop s = row[s] :: row.drop (s + 1) := List.drop_eq_getElem_cons l3
        have hx : row[s] = symN l n := by rw [← getD_lt l3 0]; exact l4
        refine ⟨by simp; omega, ⟨?_, by simp; omega⟩, ?_⟩
        · rw [hd, hx, List.length_cons, List.take_succ_cons, ← e2]
        · intro n' hn'
          rcases List.mem_cons.1 hn' with rfl | hn'
          · refine ⟨fun _ => ⟨l1, l2, ?_⟩, fun h2 => absurd h2 (by show ¬ 0 ≤ (l.getD _ zN).2.1; omega)⟩
            rcases hm.2 with ⟨_, _, h3⟩ | ⟨h3, _⟩
            · show (l.getD _ zN).2.2.2.map Int.toNat = []
              rw [h3]; rfl
            · omega
          · exact e4 n' hn'
      · cases h
    · rename_i hp
      split at h
      · rename_i hj
        obtain ⟨j1, j2, j3⟩ := hj
        simp only [Option.bind_some] at h
        obtain ⟨e1, ⟨e2, e3⟩, e4⟩ := looks_de h fun n hn => hk n (by simp [hn])
        have hp0 : 0 ≤ prodN l n := by show 0 ≤ (l.getD n zN).2.1; omega
        rw [leavesOf_join hp0]
        refine ⟨e1, ⟨e2, e3⟩, ?_⟩
        intro n' hn'
        rcases List.mem_cons.1 hn' with rfl | hn'
        · refine ⟨fun h2 => absurd h2 hp, fun _ => ?_⟩
          have hlt : ((l.getD n' zN).2.1).toNat < g.prods.length := by omega
          refine ⟨_, List.getElem?_eq_getElem hlt, ?_, ?_⟩
          · rw [← getD_lt hlt (0, [], 0)]; exact j2
          · have := eqF_map j3
            rw [getD_lt hlt] at this
            show g.prods[((l.getD n' zN).2.1).toNat].2.1 = _
            rw [this, kidsN, List.map_map]
            rfl
        · exact e4 n' hn'
      · cases h
end
end Go.Px.Scan

/-
  A derivation replays; its row is derived; with a token turned it is none.
-/
namespace Go.Px.Scan
open Go.Px Go.Proofs.Ytkacbjhiobnbfaa
section
variable {g : Gr} {l : List Nd} {row : List Int}
theorem forest_ders (hc : ∀ p ∈ g.prods, (g.terms.length : Int) ≤ p.1) : ∀ {F : Fo} {ws : List Nat} {a b : List Int}, unF l ws F → (∀ n ∈ F.pre, NodeOk g l n) → row = a ++ (leavesOf l F.pre ++ b) → DerS g.terms.length g.prods row (ws.map (symN l)) a.length (a.length + (leavesOf l F.pre).length)
  | .nil, ws, a, b, h, _, _ => by
    have h : ws = [] := h
    subst h
    exact DerS.nil _
  | .node n k r, ws, a, b, h, hk, hr => by
    obtain ⟨ws, rfl, h1, h2⟩ := h
    have hn := hk n (by simp [Fo.pre])
    have kk : ∀ m ∈ k.pre, NodeOk g l m := fun m hm => hk m (by simp [Fo.pre, hm])
    have kr : ∀ m ∈ r.pre, NodeOk g l m := fun m hm => hk m (by simp [Fo.pre, hm])
    by_cases hp : prodN l n < 0
    · obtain ⟨n1, n2, n3⟩ := hn.leaf hp
      rw [n3] at h1
      obtain rfl := fo_nil h1
      have e : (Fo.node n .nil r).pre = n :: r.pre := by simp [Fo.pre]
      rw [e, leavesOf_leaf hp] at hr ⊢
      have := forest_ders hc (a := a ++ [symN l n]) (b := b) h2 kr (by rw [hr]; simp)
      rw [List.map_cons]
      refine DerS.term n2 ?_ ?_
      · rw [hr]; simp
      · have e2 : (a ++ [symN l n]).length = a.length + 1 := by simp
        rw [e2] at this
        have e3 : a.length + (symN l n :: leavesOf l r.pre).length = a.length + 1 + (leavesOf l r.pre).length := by simp; omega
        rw [e3]; exact this
    · have hp := Int.not_lt.1 hp
      obtain ⟨p, p1, p2, p3⟩ := hn.join hp
      have e : (Fo.node n k r).pre = n :: (k.pre ++ r.pre) := rfl
      rw [e, leavesOf_join hp, leavesOf_app] at hr ⊢
      have hm := List.mem_of_getElem? p1
      have d1 := forest_ders hc (a := a) (b := leavesOf l r.pre ++ b) h1 kk (by rw [hr]; simp)
      have d2 := forest_ders hc (a := a ++ leavesOf l k.pre) (b := b) h2 kr (by rw [hr]; simp)
      rw [← p3] at d1
      rw [List.length_append] at d2
      rw [List.map_cons, ← p2, List.length_append, ← Nat.add_assoc]
      exact DerS.non hm (hc p hm) d1 d2
/-- What stands of the row of symbols, with the productions still to come. -/
def Rp (g : Gr) (l : List Nd) (row rs now : List Int) (done : Nat) : Prop :=
  ∃ ws F, unF l ws F ∧ now = ws.map (symN l) ∧ (∀ n ∈ F.pre, NodeOk g l n) ∧ rs = prodsOf l F.preR ∧ leavesOf l F.pre = row.take (row.length - done) ∧ done ≤ row.length
theorem snoc_of {α : Type} (ws : List α) (h : ws ≠ []) : ∃ a x, ws = a ++ [x] := ⟨ws.dropLast, ws.getLast h, (List.dropLast_concat_getLast h).symm⟩
theorem Rp.last {rs now : List Int} {x : Int} {done : Nat} (h : Rp g l row rs (now ++ [x]) done) :
    ∃ ws n A K, unF l ws A ∧ unF l (kidsN (l.getD n zN)) K ∧ now = ws.map (symN l) ∧ x = symN l n ∧ (∀ m ∈ A.pre, NodeOk g l m) ∧ (∀ m ∈ K.pre, NodeOk g l m) ∧ NodeOk g l n ∧ rs = prodsOf l (n :: (K.preR ++ A.preR)) ∧ leavesOf l (A.pre ++ n :: K.pre) = row.take (row.length - done) ∧ done ≤ row.length := by
  obtain ⟨ws, F, h1, h2, h3, h4, h5, h6⟩ := h
  have hne : ws ≠ [] := by rintro rfl; simp at h2
  obtain ⟨ws, n, rfl⟩ := snoc_of ws hne
  rw [List.map_append, List.map_singleton] at h2
  obtain ⟨e1, e2⟩ := List.append_inj' h2 rfl
  obtain ⟨A, B, rfl, g1, g2⟩ := unF_split h1
  obtain ⟨K, rfl, g3⟩ := fo_one g2
  have ep : (A.app (.node n K .nil)).pre = A.pre ++ n :: K.pre := by rw [Fo.pre_app]; simp [Fo.pre]
  have er : (A.app (.node n K .nil)).preR = n :: (K.preR ++ A.preR) := by rw [Fo.preR_app]; simp [Fo.preR]
  rw [ep] at h3 h5
  rw [er] at h4
  exact ⟨ws, n, A, K, g1, g3, e1, by injection e2, fun m hm => h3 m (by simp [hm]), fun m hm => h3 m (by simp [hm]), h3 n (by simp), h4, h5, h6⟩
theorem Rp.strip (hc : ∀ p ∈ g.prods, (g.terms.length : Int) ≤ p.1) {rs now : List Int} {x : Int} {done : Nat} (h : Rp g l row rs (now ++ [x]) done) (hx : x < g.terms.length) :
    done < row.length ∧ row[row.length - 1 - done]? = some x ∧ Rp g l row rs now (done + 1) := by
  obtain ⟨ws, n, A, K, h1, h2, h3, rfl, h4, h5, hn, h6, h7, h8⟩ := h.last
  have hp : prodN l n < 0 := by
    refine Int.not_le.1 fun hp => ?_
    obtain ⟨p, p1, p2, p3⟩ := hn.join hp
    have := hc p (List.mem_of_getElem? p1)
    rw [p2] at this
    exact absurd hx (Int.not_lt.2 this)
  rw [(hn.leaf hp).2.2] at h2
  obtain rfl := fo_nil h2
  rw [show n :: Fo.nil.pre = [n] from rfl, leavesOf_app, leavesOf_leaf hp] at h7
  have e0 : leavesOf l ([] : List Nat) = [] := rfl
  rw [e0] at h7
  have hlen := congrArg List.length h7
  simp at hlen
  have hlt : done < row.length := by omega
  have hm : row.length - done = (leavesOf l A.pre).length + 1 := by omega
  have hA : leavesOf l A.pre = row.take (row.length - (done + 1)) := by
    have := congrArg (List.take (leavesOf l A.pre).length) h7
    rw [List.take_left, List.take_take, Nat.min_eq_left (by omega)] at this
    rw [this]
    congr 1
    omega
  refine ⟨hlt, ?_, ws, A, h1, h3, h4, ?_, hA, hlt⟩
  · have := congrArg (·[(leavesOf l A.pre).length]?) h7
    simp only [List.getElem?_append_right (Nat.le_refl _), Nat.sub_self] at this
    rw [List.getElem?_take_of_lt (by omega)] at this
    rw [show row.length - 1 - done = (leavesOf l A.pre).length by omega, ← this]
    rfl
  · rw [h6, prodsOf_leaf hp]; rfl
theorem Rp.nil {r : Int} {rs : List Int} {done : Nat} (h : Rp g l row (r :: rs) [] done) : False := by
  obtain ⟨ws, F, h1, h2, h3, h4, h5, h6⟩ := h
  have hw : ws = [] := by cases ws with
    | nil => rfl
    | cons a b => cases h2
  subst hw
  rw [fo_nil h1] at h4
  cases h4
theorem Rp.step {r x : Int} {rs now : List Int} {done : Nat} (h : Rp g l row (r :: rs) (now ++ [x]) done) (hx : (g.terms.length : Int) ≤ x) :
    ∃ p, 0 ≤ r ∧ g.prods[r.toNat]? = some p ∧ p.1 = x ∧ Rp g l row rs (now ++ p.2.1) done := by
  obtain ⟨ws, n, A, K, h1, h2, h3, rfl, h4, h5, hn, h6, h7, h8⟩ := h.last
  have hp : 0 ≤ prodN l n := Int.not_lt.1 fun hp => absurd (hn.leaf hp).2.1 (Int.not_lt.2 hx)
  obtain ⟨p, p1, p2, p3⟩ := hn.join hp
  rw [prodsOf_join hp] at h6
  injection h6 with e1 e2
  subst e1
  refine ⟨p, hp, p1, p2, ws ++ kidsN (l.getD n zN), A.app K, unF_app h1 h2, ?_, ?_, ?_, ?_, h8⟩
  · rw [h3, p3, List.map_append]
  · intro m hm
    rw [Fo.pre_app] at hm
    rcases List.mem_append.1 hm with hm | hm
    · exact h4 m hm
    · exact h5 m hm
  · rw [e2, Fo.preR_app]
  · rw [Fo.pre_app, leavesOf_app, ← h7, leavesOf_app, leavesOf_join hp]
theorem all_leaves : ∀ {F : Fo} {ws : List Nat}, unF l ws F → (∀ n ∈ F.pre, NodeOk g l n) → (∀ n ∈ F.pre, prodN l n < 0) → ws.map (symN l) = leavesOf l F.pre
  | .nil, ws, h, _, _ => by have h : ws = [] := h; subst h; rfl
  | .node n k r, ws, h, hk, hp => by
    obtain ⟨ws, rfl, h1, h2⟩ := h
    have hn := hp n (by simp [Fo.pre])
    rw [((hk n (by simp [Fo.pre])).leaf hn).2.2] at h1
    obtain rfl := fo_nil h1
    have e : (Fo.node n .nil r).pre = n :: r.pre := by simp [Fo.pre]
    rw [e, leavesOf_leaf hn, List.map_cons, all_leaves h2 (fun m hm => hk m (by simp [Fo.pre, hm])) (fun m hm => hp m (by simp [Fo.pre, hm]))]
theorem Rp.done {now : List Int} {done : Nat} (h : Rp g l row [] now done) : now = row.take (row.length - done) ∧ done ≤ row.length := by
  obtain ⟨ws, F, h1, h2, h3, h4, h5, h6⟩ := h
  refine ⟨?_, h6⟩
  rw [h2, ← h5]
  refine all_leaves h1 h3 fun n hn => Int.not_le.1 fun hp => ?_
  have hm : n ∈ F.preR := (F.perm.mem_iff).2 hn
  have : prodN l n ∈ prodsOf l F.preR := List.mem_map.2 ⟨n, List.mem_filter.2 ⟨hm, by simpa using hp⟩, rfl⟩
  rw [← h4] at this
  cases this
/-- A derivation, taken apart. -/
structure Deriv (g : Gr) (l : List Nd) (root : Int) (row : List Int) (F : Fo) : Prop where
  closed : ClosedP g
  lo : 0 ≤ root
  hi : root < l.length
  un : unF l [root.toNat] F
  ok : ∀ n ∈ F.pre, okN n (l.getD n zN)
  node : ∀ n ∈ F.pre, NodeOk g l n
  nd : F.pre.Nodup
  len : F.pre.length ≤ l.length
  sym : symN l root.toNat = g.start
  walk : walkP l false root = some F.pre
  leaves : leavesOf l F.pre = row
  prods : 0 ≤ prodN l root.toNat
theorem derive_of {root : Int} (h : deriveB g l root row = true) : ∃ F, Deriv g l root row F := by
  unfold deriveB at h
  simp only [Bool.and_eq_true, decide_eq_true_eq] at h
  obtain ⟨⟨h1, h2, h3, h4, h5⟩, h6⟩ := h
  rw [lookP_walk] at h6
  cases hw : walkP l false root with
  | none => rw [hw] at h6; cases h6
  | some vs =>
    rw [hw, Option.bind_some] at h6
    have hw2 := hw
    unfold walkP at hw2
    rw [if_pos ⟨h2, h3⟩] at hw2
    obtain ⟨F, f1, f2, f3, f4, f5⟩ := walk_forest hw2 (by simp)
    rw [List.nil_append] at f2
    subst f2
    obtain ⟨e1, ⟨e2, e3⟩, e4⟩ := looks_de h6 fun n hn => Or.inl (f3 n hn)
    refine ⟨F, closedB_iff.1 h1, h2, h3, f1, f3, e4, f4, f5, h4, hw, ?_, h5⟩
    rw [List.drop_zero, show (leavesOf l F.pre).length = row.length by omega, List.take_length] at e2
    exact e2
theorem ClosedP.left (h : ClosedP g) : ∀ p ∈ g.prods, (g.terms.length : Int) ≤ p.1 := by
  intro p hp
  have hd := h.prods.each
  have ha := h.added
  cases hq : g.prods with
  | nil => rw [hq] at hp; cases hp
  | cons a b =>
    rw [hq] at hp hd ha
    rcases List.mem_cons.1 hp with rfl | hp
    · injection ha with ha; rw [ha]; exact Int.le_refl _
    · have := (hd p (by simpa using hp)).l0; omega
section
variable {root : Int} {F : Fo}
theorem Deriv.ders (h : Deriv g l root row F) : DerS g.terms.length g.prods row [g.start] 0 row.length := by
  have hr : row = [] ++ (leavesOf l F.pre ++ []) := by rw [h.leaves]; simp
  have := forest_ders h.closed.left h.un h.node hr
  simpa [h.leaves, h.sym] using this
theorem Deriv.front (h : Deriv g l root row F) : lookP l false (frV l) [] root = some row := by
  rw [lookP_walk, h.walk, Option.bind_some, looks_fr, h.leaves, List.nil_append]
theorem Deriv.walkR (h : Deriv g l root row F) : walkP l true root = some F.preR := by
  unfold walkP
  rw [if_pos ⟨h.lo, h.hi⟩]
  have := forest_walkR (f := l.length) (out := []) (ws := [root.toNat]) (F := F) h.un h.ok (by simpa using h.nd) h.len
  simpa using this
theorem Deriv.right (h : Deriv g l root row F) : lookP l true (rmV l) [] root = some (prodsOf l F.preR) := by
  rw [lookP_walk, h.walkR, Option.bind_some, looks_rm, List.nil_append]
theorem Deriv.start (h : Deriv g l root row F) : Rp g l row (prodsOf l F.preR) [g.start] 0 :=
  ⟨_, F, h.un, by rw [← h.sym]; rfl, h.node, rfl, by rw [h.leaves, Nat.sub_zero, List.take_length], Nat.zero_le _⟩
/-- No derivation of a longer row. -/
theorem Deriv.more (h : Deriv g l root row F) (x : Int) : deriveB g l root (row ++ [x]) = false := by
  refine bool_no Iff.rfl fun hd => ?_
  obtain ⟨F', h'⟩ := derive_of hd
  have e := h.walk.symm.trans h'.walk
  injection e with e
  have := h'.leaves
  rw [← e, h.leaves] at this
  have := congrArg List.length this
  simp at this
end
end
end Go.Px.Scan

/-
  A token turned.
-/
namespace Go.Px.Scan
open Go.Px Go.Proofs.Ytkacbjhiobnbfaa
section
variable {g : Gr} {l l' : List Nd} {row : List Int} {i : Nat}
/-- A node's token is turned. -/
def turnT (l : List Nd) (i : Nat) (t : Int) : List Nd := l.set i ((l.getD i zN).1, (l.getD i zN).2.1, t, (l.getD i zN).2.2.2)
theorem turnT_len (l : List Nd) (i : Nat) (t : Int) : (turnT l i t).length = l.length := by simp [turnT]
theorem turnT_other {n : Nat} {t : Int} (h : n ≠ i) : (turnT l i t).getD n zN = l.getD n zN := by
  rw [List.getD_eq_getElem?_getD, List.getD_eq_getElem?_getD, turnT, List.getElem?_set_ne (Ne.symm h)]
theorem turnT_self {t : Int} (h : i < l.length) : (turnT l i t).getD i zN = ((l.getD i zN).1, (l.getD i zN).2.1, t, (l.getD i zN).2.2.2) := by
  rw [List.getD_eq_getElem?_getD, turnT, List.getElem?_set_self h]; rfl
theorem turnT_sym {n : Nat} {t : Int} (h : i < l.length) : ((turnT l i t).getD n zN).1 = (l.getD n zN).1 := by
  by_cases e : n = i
  · subst e; rw [turnT_self h]
  · rw [turnT_other e]
theorem turnT_prod {n : Nat} {t : Int} (h : i < l.length) : ((turnT l i t).getD n zN).2.1 = (l.getD n zN).2.1 := by
  by_cases e : n = i
  · subst e; rw [turnT_self h]
  · rw [turnT_other e]
theorem turnT_join {t : Int} (h : i < l.length) (x : Nd) : joinP g (turnT l i t) x ↔ joinP g l x := by
  unfold joinP
  have : (fun s k => decide (0 ≤ k ∧ k < ((turnT l i t).length : Int) ∧ ((turnT l i t).getD k.toNat zN).1 = s)) = (fun (s k : Int) => decide (0 ≤ k ∧ k < (l.length : Int) ∧ (l.getD k.toNat zN).1 = s)) := by
    funext s k
    rw [turnT_len, turnT_sym h]
  rw [this]
theorem turnT_de {n s : Nat} {t : Int} (h : i < l.length) (hn : n ≠ i) : deV g (turnT l i t) row s n = deV g l row s n := by
  unfold deV
  rw [turnT_other hn]
  by_cases hp : (l.getD n zN).2.1 < 0
  · rw [if_pos hp, if_pos hp]
  · rw [if_neg hp, if_neg hp]
    by_cases hj : joinP g l (l.getD n zN)
    · rw [if_pos hj, if_pos ((turnT_join h _).2 hj)]
    · rw [if_neg hj, if_neg fun h2 => hj ((turnT_join h _).1 h2)]
/-- One that the walk does not meet. -/
theorem turn_out {t : Int} (h : i < l.length) : ∀ {f : Nat} {out ws r : List Nat} {s s' : Nat}, walkF l false f out ws = some r → i ∉ r → lookF l false (deV g l row) f s out ws = some s' → lookF (turnT l i t) false (deV g (turnT l i t) row) f s out ws = some s'
  | f, out, [], r, s, s', hw, hi, hl => by cases f <;> simpa [lookF] using hl
  | 0, out, n :: ws, r, s, s', hw, hi, hl => by simp [lookF] at hl
  | f + 1, out, n :: ws, r, s, s', hw, hi, hl => by
    simp only [walkF] at hw
    split at hw
    · rename_i h1
      obtain ⟨h1, h2⟩ := h1
      obtain ⟨tl, e⟩ := walkF_pre hw
      have hn : n ≠ i := by
        rintro rfl
        exact hi (by rw [e]; simp)
      simp only [lookF] at hl ⊢
      rw [turnT_other hn, turnT_de h hn, if_pos h1]
      rw [if_pos h1] at hl
      cases hv : deV g l row s n with
      | none => rw [hv] at hl; cases hl
      | some s1 =>
        rw [hv, Option.bind_some, if_pos h2] at hl
        rw [Option.bind_some, if_pos h2]
        exact turn_out h hw hi hl
    · cases hw
/-- One that the walk meets. -/
theorem turn_in (h : i < l.length) (ht : 0 ≤ (l.getD i zN).2.2.1) : ∀ {f : Nat} {out ws r : List Nat} {s a b : Nat}, walkF l false f out ws = some r → lookF l false (deV g l row) f s out ws = some a → lookF (turnT l i ((l.getD i zN).2.2.1 + 1)) false (deV g (turnT l i ((l.getD i zN).2.2.1 + 1)) row) f s out ws = some b → i ∉ r.drop out.length
  | f, out, [], r, s, a, b, hw, h1, h2 => by
    have : out = r := by cases f <;> (simp only [walkF] at hw; exact Option.some.inj hw)
    subst this; simp
  | 0, out, n :: ws, r, s, a, b, hw, h1, h2 => by simp [lookF] at h1
  | f + 1, out, n :: ws, r, s, a, b, hw, h1, h2 => by
    simp only [walkF] at hw
    split at hw
    · rename_i k1
      obtain ⟨k1, k2⟩ := k1
      obtain ⟨tl, e⟩ := walkF_pre hw
      simp only [lookF] at h1 h2
      rw [if_pos k1] at h1
      split at h2
      · rename_i k3
        cases hv : deV g l row s n with
        | none => rw [hv] at h1; cases h1
        | some s1 =>
          rw [hv, Option.bind_some, if_pos k2] at h1
          cases hv2 : deV g (turnT l i ((l.getD i zN).2.2.1 + 1)) row s n with
          | none => rw [hv2] at h2; cases h2
          | some s2 =>
            rw [hv2, Option.bind_some] at h2
            have hn : n ≠ i := by
              rintro rfl
              rw [turnT_self h] at k3
              have hp := k1.2
              rcases k3.2 with ⟨q1, q2, q3⟩ | ⟨q1, q2, q3⟩
              · simp only at q1 q2 q3
                unfold deV at hv hv2
                rw [turnT_self h] at hv2
                have hneg : (l.getD n zN).2.1 < 0 := by omega
                rw [if_pos hneg] at hv
                rw [if_pos (by simpa using hneg)] at hv2
                split at hv
                · rename_i p1
                  split at hv2
                  · rename_i p2
                    have a1 := p1.2.2.2.2
                    have a2 := p2.2.2.2.2
                    simp only at a2
                    omega
                  · cases hv2
                · cases hv
              · simp only at q2
                omega
            rw [turnT_de h hn, hv] at hv2
            injection hv2 with hv2
            subst hv2
            rw [turnT_other hn] at h2
            rw [if_pos k2] at h2
            have ih := turn_in h ht hw h1 h2
            have e1 : r.drop out.length = n :: tl := by rw [e]; simp
            have e2 : r.drop (out ++ [n]).length = tl := by rw [e, List.drop_left]
            rw [e2] at ih
            rw [e1]
            simp [ih, Ne.symm hn]
      · cases h2
    · cases hw
theorem Deriv.look {root : Int} {F : Fo} (h : Deriv g l root row F) (hd : deriveB g l root row = true) : lookF l false (deV g l row) l.length 0 [] [root.toNat] = some row.length := by
  unfold deriveB at hd
  simp only [Bool.and_eq_true, decide_eq_true_eq] at hd
  have := hd.2
  unfold lookP at this
  rw [if_pos ⟨h.lo, h.hi⟩] at this
  exact this
/-- A token turned: no derivation just if its node is below. -/
theorem Deriv.turned {root : Int} {F : Fo} (h : Deriv g l root row F) (hd : deriveB g l root row = true) (hi : i < l.length) : deriveB g (turnT l i ((l.getD i zN).2.2.1 + 1)) root row = !decide (i ∈ F.pre) := by
  have hl := h.look hd
  have hw : walkF l false l.length [] [root.toNat] = some F.pre := by
    have := h.walk
    unfold walkP at this
    rw [if_pos ⟨h.lo, h.hi⟩] at this
    exact this
  by_cases hm : i ∈ F.pre
  · rw [decide_eq_true hm]
    refine bool_no Iff.rfl fun hd2 => ?_
    have ht : 0 ≤ (l.getD i zN).2.2.1 := by
      rcases (h.ok i hm).2 with ⟨_, h1, _⟩ | ⟨_, h1, _⟩ <;> omega
    unfold deriveB at hd2
    simp only [Bool.and_eq_true, decide_eq_true_eq] at hd2
    have h2 := hd2.2
    unfold lookP at h2
    rw [turnT_len, if_pos ⟨h.lo, h.hi⟩] at h2
    have := turn_in hi ht hw hl h2
    simp at this
    exact this hm
  · rw [decide_eq_false hm]
    unfold deriveB at hd ⊢
    simp only [Bool.and_eq_true, decide_eq_true_eq] at hd
    obtain ⟨⟨h1, h2, h3, h4, h5⟩, h6⟩ := hd
    have := turn_out (t := (l.getD i zN).2.2.1 + 1) hi hw hm hl
    simp only [Bool.not_false, Bool.and_eq_true, decide_eq_true_eq, turnT_len, turnT_sym hi, turnT_prod hi]
    refine ⟨⟨h1, h2, h3, h4, h5⟩, ?_⟩
    unfold lookP
    rw [turnT_len, if_pos ⟨h2, h3⟩]
    exact this
end
end Go.Px.Scan

/-
  Lists that are lent.
-/
namespace Go.Proofs.Ytkacbjhiobnbfaa
open Go.Px Go.Px.Scan Go.RowKit
theorem ints_in {w : World} {B : Nat} {v : Value} {l : List Int} (h : (rSlice rInt).at1 w B v l) : ∀ x ∈ l, inI64 x := by
  intro k hk
  obtain ⟨j, hj, rfl⟩ := List.getElem_of_mem hk
  obtain ⟨A', c', rfl, _⟩ := slice_form h
  obtain ⟨_, _, _, _, _, q⟩ := Go.Px.ints_at h hj
  exact q
end Go.Proofs.Ytkacbjhiobnbfaa

/-
  What show tells, plainly.
-/
namespace Go.Px.Scan
open Go.Px

def EitherP (g : Gr) : Prop := ValidP g ∨ ClosedP g
open Classical in
noncomputable def eitherB (g : Gr) : Bool := validB g || closedB g
theorem eitherB_iff {g : Gr} : eitherB g = true ↔ EitherP g := by
  unfold eitherB EitherP
  rw [Bool.or_eq_true, validB_iff, closedB_iff]

def nameOf (g : Gr) (s : Int) : ByteArray := (g.terms.getD s.toNat (⟨#[]⟩, 0)).1
def nonAt (g : Gr) (s : Int) : ByteArray := g.nons.getD (s - g.terms.length).toNat ⟨#[]⟩
def tEnd : Txt := [36, 101, 110, 100]
def tStart : Txt := [36, 115, 116, 97, 114, 116]
/-- A symbol's text. -/
def symT (g : Gr) (s : Int) : Txt :=
  if s = 0 then tEnd
  else if s < g.terms.length then [39] ++ tx (nameOf g s) ++ [39]
  else if nonAt g s = ⟨#[]⟩ then tStart else tx (nonAt g s)
def isSymP (g : Gr) (s : Int) : Prop := 0 ≤ s ∧ s < (g.terms.length : Int) + g.nons.length
instance (g : Gr) (s : Int) : Decidable (isSymP g s) := inferInstanceAs (Decidable (_ ∧ _))
/-- Words, each with a blank ahead. -/
def wordsT (l : List Txt) : Txt := l.flatMap fun s => 32 :: s
def namesT (g : Gr) (l : List Int) : Txt := wordsT (l.map (symT g))
theorem wordsT_append (a b : List Txt) : wordsT (a ++ b) = wordsT a ++ wordsT b := by simp [wordsT]
theorem wordsT_take {l : List Txt} {k : Nat} (h : k < l.length) : (wordsT (l.take k)).length + 1 + l[k].length ≤ (wordsT l).length := by
  have : wordsT l = wordsT (l.take k) ++ (32 :: l[k]) ++ wordsT (l.drop (k + 1)) := by
    have e : l = l.take k ++ ([l[k]] ++ l.drop (k + 1)) := by simp
    conv => lhs; rw [e]
    rw [wordsT_append, wordsT_append, List.append_assoc]
    simp [wordsT]
  rw [this]
  simp
  omega
theorem namesT_append (g : Gr) (a b : List Int) : namesT g (a ++ b) = namesT g a ++ namesT g b := by simp [namesT, wordsT]
theorem namesT_cons (g : Gr) (x : Int) (l : List Int) : namesT g (x :: l) = 32 :: symT g x ++ namesT g l := by simp [namesT, wordsT]

/-- What an either grammar has of all. -/
structure EBound (g : Gr) : Prop where
  t0 : 0 < g.terms.length
  n0 : 0 < g.nons.length
  t1 : g.terms.length ≤ 65
  n1 : g.nons.length ≤ 65
  p1 : g.prods.length ≤ 97
  l1 : g.levels.length ≤ 64
  tnam : ∀ t ∈ g.terms, t.1.size ≤ 16
  nnam : ∀ s ∈ g.nons, s.size ≤ 16
  lev : ∀ x ∈ g.levels, 1 ≤ x ∧ x ≤ 3
  tlev : ∀ t ∈ g.terms, 0 ≤ t.2 ∧ t.2 ≤ g.levels.length
  start : isSymP g g.start ∧ (g.terms.length : Int) ≤ g.start
  left : ∀ p ∈ g.prods, isSymP g p.1 ∧ (g.terms.length : Int) ≤ p.1
  right : ∀ p ∈ g.prods, ∀ s ∈ p.2.1, isSymP g s ∧ 1 ≤ s
  plev : ∀ p ∈ g.prods, 0 ≤ p.2.2 ∧ p.2.2 ≤ g.levels.length
  has : ∀ i : Nat, i < g.levels.length → ∃ t ∈ g.terms.tail, t.2 = (i : Int) + 1

theorem levels_le {g : Gr} (h : ∀ i : Nat, i < g.levels.length → ∃ t ∈ g.terms.tail, t.2 = (i : Int) + 1) (ht : g.terms.length ≤ 65) : g.levels.length ≤ 64 := by
  have h1 := nodup_le (l := (List.range g.levels.length).map fun i : Nat => (i : Int) + 1) (m := g.terms.tail.map (·.2)) (by
    rw [List.Nodup, List.pairwise_map]
    exact List.nodup_range.imp fun h e => h (by omega)) (by
    intro x hx
    obtain ⟨i, hi, rfl⟩ := List.mem_map.1 hx
    obtain ⟨t, ht, e⟩ := h i (by simpa using hi)
    exact List.mem_map.2 ⟨t, ht, e⟩)
  simp at h1
  omega

theorem syms_bound {g : Gr} {a : Nat} (h : SymsP g a) (hn : ∀ s ∈ g.nons.take a, s.size ≤ 16) : (∀ t ∈ g.terms, t.1.size ≤ 16) ∧ (∀ s ∈ g.nons, s.size ≤ 16) ∧ (∀ t ∈ g.terms, 0 ≤ t.2 ∧ t.2 ≤ g.levels.length) := by
  have hd : g.terms = (⟨#[]⟩, 0) :: g.terms.tail := by
    have := h.t0
    cases ht : g.terms with
    | nil => rw [ht] at this; cases this
    | cons x r => rw [ht] at this; injection this with this; rw [this]; rfl
  refine ⟨fun t ht => ?_, fun s hs => ?_, fun t ht => ?_⟩
  · rw [hd] at ht
    rcases List.mem_cons.1 ht with rfl | ht
    · exact Nat.zero_le _
    · exact (h.terms t ht).name.2.1
  · rw [← List.take_append_drop a g.nons] at hs
    rcases List.mem_append.1 hs with hs | hs
    · exact hn s hs
    · exact (h.nnam s hs).2.1
  · rw [hd] at ht
    rcases List.mem_cons.1 ht with rfl | ht
    · simp
    · exact ⟨(h.terms t ht).lo, (h.terms t ht).hi⟩

theorem either_bound {g : Gr} (h : EitherP g) : EBound g := by
  rcases h with h | h
  · obtain ⟨b1, b2, b3⟩ := syms_bound h.syms (by simp)
    have ht0 : 0 < g.terms.length := by have := h.syms.t0; cases ht : g.terms with
      | nil => rw [ht] at this; cases this
      | cons x r => simp
    have each : ∀ p ∈ g.prods, ProdOk g 0 p := fun p hp => h.prods.each p (by simpa using hp)
    refine ⟨ht0, h.syms.n0, h.syms.t1, by have := h.syms.n1; omega, by have := h.prods.c1; omega, levels_le (fun i hi => (h.syms.levels i hi).2.2) h.syms.t1, b1, b2, fun x hx => ?_, b3, ?_, fun p hp => ?_, fun p hp s hs => ?_, fun p hp => ⟨(each p hp).v0, (each p hp).v1⟩, fun i hi => (h.syms.levels i hi).2.2⟩
    · obtain ⟨i, hi, rfl⟩ := List.mem_iff_getElem.1 hx
      exact ⟨(h.syms.levels i hi).1, (h.syms.levels i hi).2.1⟩
    · have := h.prods.s0; have := h.prods.s1
      exact ⟨⟨by omega, by omega⟩, by omega⟩
    · have := (each p hp).l0; have := (each p hp).l1
      exact ⟨⟨by omega, by omega⟩, by omega⟩
    · have := (each p hp).right s hs
      exact ⟨⟨by omega, by omega⟩, by omega⟩
  · have hn0 : g.nons.take 1 = [⟨#[]⟩] := by
      have := h.first
      cases hn : g.nons with
      | nil => rw [hn] at this; cases this
      | cons x r => rw [hn] at this; injection this with this; simp [this]
    obtain ⟨b1, b2, b3⟩ := syms_bound h.syms (by rw [hn0]; intro s hs; simp at hs; subst hs; decide)
    have ht0 : 0 < g.terms.length := by have := h.syms.t0; cases ht : g.terms with
      | nil => rw [ht] at this; cases this
      | cons x r => simp
    have hs0 := h.prods.s0
    have hs1 := h.prods.s1
    have hn1 := h.syms.n0
    have each : ∀ p ∈ g.prods, p = ((g.terms.length : Int), [g.start], 0) ∨ ProdOk g 1 p := fun p hp => by
      have := h.added
      cases hps : g.prods with
      | nil => rw [hps] at hp; cases hp
      | cons x r =>
        rw [hps] at this hp
        injection this with this
        rcases List.mem_cons.1 hp with rfl | hp
        · exact Or.inl this
        · exact Or.inr (h.prods.each p (by rw [hps]; simpa using hp))
    refine ⟨ht0, by omega, h.syms.t1, by have := h.syms.n1; omega, by have := h.prods.c1; omega, levels_le (fun i hi => (h.syms.levels i hi).2.2) h.syms.t1, b1, b2, fun x hx => ?_, b3, ?_, fun p hp => ?_, fun p hp s hs => ?_, fun p hp => ?_, fun i hi => (h.syms.levels i hi).2.2⟩
    · obtain ⟨i, hi, rfl⟩ := List.mem_iff_getElem.1 hx
      exact ⟨(h.syms.levels i hi).1, (h.syms.levels i hi).2.1⟩
    · exact ⟨⟨by omega, by omega⟩, by omega⟩
    · rcases each p hp with rfl | hp
      · exact ⟨⟨by simp, by simp; omega⟩, by simp⟩
      · have := hp.l0; have := hp.l1
        exact ⟨⟨by omega, by omega⟩, by omega⟩
    · rcases each p hp with rfl | hp
      · simp at hs; subst hs; exact ⟨⟨by omega, by omega⟩, by omega⟩
      · have := hp.right s hs
        exact ⟨⟨by omega, by omega⟩, by omega⟩
    · rcases each p hp with rfl | hp
      · simp
      · exact ⟨hp.v0, hp.v1⟩

theorem symT_len {g : Gr} (h : EBound g) (s : Int) : (symT g s).length ≤ 18 := by
  unfold symT
  split
  · simp [tEnd]
  · split
    · have : (nameOf g s).size ≤ 16 := by
        unfold nameOf
        rw [List.getD_eq_getElem?_getD]
        cases e : g.terms[s.toNat]? with
        | none => exact Nat.zero_le _
        | some t => exact h.tnam t (List.mem_of_getElem? e)
      simp [tx_len]; omega
    · split
      · simp [tStart]
      · have : (nonAt g s).size ≤ 16 := by
          unfold nonAt
          rw [List.getD_eq_getElem?_getD]
          cases e : g.nons[(s - g.terms.length).toNat]? with
          | none => exact Nat.zero_le _
          | some t => exact h.nnam t (List.mem_of_getElem? e)
        rw [tx_len]; omega
theorem namesT_len {g : Gr} (h : EBound g) : ∀ l : List Int, (namesT g l).length ≤ 19 * l.length
  | [] => by simp [namesT, wordsT]
  | x :: l => by
    rw [namesT_cons, List.length_append, List.length_cons, List.length_cons]
    have := symT_len h x
    have := namesT_len h l
    omega
end Go.Px.Scan
namespace Go.Px.Scan
open Go.Px
end Go.Px.Scan
namespace Go.Px.Scan
open Go.Px
/-- What Row answers. -/
noncomputable def rowOk (g : Gr) (l : List Int) : Bool := eitherB g && l.all fun s => decide (isSymP g s)
def rowT (g : Gr) (l : List Int) : Txt := (namesT g l).drop 1
end Go.Px.Scan
namespace Go.Px.Scan
open Go.Px
end Go.Px.Scan
namespace Go.Px.Scan
open Go.Px
end Go.Px.Scan
namespace Go.Px.Scan
open Go.Px
end Go.Px.Scan
namespace Go.Px.Scan
open Go.Px
end Go.Px.Scan
namespace Go.Px.Scan
open Go.Px
end Go.Px.Scan

/-
  A tree's text, plainly: the document's way and the program's.
-/
namespace Go.Px.Scan
open Go.Px
def closeF : List Nat → Txt → Txt × List Nat
  | [], t => (t, [])
  | k :: o, t => if 1 < k then (t, (k - 1) :: o) else closeF o (t ++ [41])
def stepN (nm : Int → Txt) (x : Nd) (t : Txt) (o : List Nat) : Txt × List Nat :=
  if 0 ≤ x.2.1 then closeF ((x.2.2.2.length + 1) :: o) (t ++ nm x.1 ++ [40]) else closeF o (t ++ nm x.1)
def spaceT (t : Txt) (o : List Nat) : Txt := if o ≠ [] ∧ t.getLast? ≠ some 40 then t ++ [32] else t
def textV (nm : Int → Txt) (N : Nat) (l : List Nd) (s : Txt × List Nat) (n : Nat) : Option (Txt × List Nat) :=
  if (l.getD n zN).1 < N then some (stepN nm (l.getD n zN) (spaceT s.1 s.2) s.2) else none

theorem closeF_len : ∀ (o : List Nat) (t : Txt), (closeF o t).1.length + (closeF o t).2.length = t.length + o.length ∧ t.length ≤ (closeF o t).1.length
  | [], t => by simp [closeF]
  | k :: o, t => by
    unfold closeF
    by_cases hk : 1 < k
    · rw [if_pos hk]; simp
    · rw [if_neg hk]
      have := closeF_len o (t ++ [41])
      simp at this ⊢; omega
variable {nm : Int → Txt} {N : Nat} {l : List Nd}
theorem textV_len (hnm : ∀ s, (nm s).length ≤ 18) (hn0 : ∀ s, nm s ≠ []) {s s' : Txt × List Nat} {n : Nat} (h : textV nm N l s n = some s') : s'.1.length + s'.2.length ≤ s.1.length + s.2.length + 21 ∧ s'.1 ≠ [] := by
  unfold textV at h
  split at h
  · injection h with h
    subst h
    have hsp : (spaceT s.1 s.2).length ≤ s.1.length + 1 := by unfold spaceT; split <;> simp
    have h18 := hnm (l.getD n zN).1
    have h0 := List.length_pos_iff.2 (hn0 (l.getD n zN).1)
    unfold stepN
    split
    · have := closeF_len (((l.getD n zN).2.2.2.length + 1) :: s.2) (spaceT s.1 s.2 ++ nm (l.getD n zN).1 ++ [40])
      simp only [List.length_append, List.length_cons, List.length_nil] at this
      exact ⟨by omega, fun e => by rw [e] at this; simp at this⟩
    · have := closeF_len s.2 (spaceT s.1 s.2 ++ nm (l.getD n zN).1)
      simp only [List.length_append] at this
      exact ⟨by omega, fun e => by rw [e] at this; simp at this; have := this.2.2; simp [this] at h0⟩
  · cases h
end Go.Px.Scan
