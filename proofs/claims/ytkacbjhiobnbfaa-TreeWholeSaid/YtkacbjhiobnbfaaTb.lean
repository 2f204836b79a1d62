/-
  Texts of this claim: Tr5, Tr6.
-/
import Derived.Test.YtkacbjhiobnbfaaTa
import Derived.Test.YtkacbjhiobnbfaaMb
/-
  tree: Frontier and Rightmost.
-/
namespace Go.Px.Scan
open Go.Px Go.RowKit
theorem nd_form {w : World} {B : Nat} {vx : Value} {x : Nd} (h : rNd.atN w B vx x) : ∃ A c, vx = .agg #[.int .i64 x.1, .int .i64 x.2.1, .int .i64 x.2.2.1, .slice A x.2.2.2.length c] ∧ (rSlice rInt).at1 w B (.slice A x.2.2.2.length c) x.2.2.2 ∧ inI64 x.1 ∧ inI64 x.2.1 ∧ inI64 x.2.2.1 := by
  obtain ⟨ys, rfl, c1, c2, rfl, ⟨rfl, h1⟩, c3, c4, rfl, ⟨rfl, h2⟩, c5, c6, rfl, ⟨rfl, h3⟩, h4⟩ := h
  obtain ⟨A', k, rfl, h5⟩ := h4
  exact ⟨A', k, rfl, ⟨A', k, rfl, h5⟩, h1, h2, h3⟩
theorem looks_snoc {σ : Type} {V : σ → Nat → Option σ} {s0 : σ} {r : List Nat} {n : Nat} : looks V s0 (r ++ [n]) = (looks V s0 r).bind fun s => V s n := by simp [looks]
theorem looks_bound {σ : Type} {V : σ → Nat → Option σ} (μ : σ → Nat) {d : Nat} (hs : ∀ s n s', V s n = some s' → μ s' ≤ μ s + d) : ∀ (r : List Nat) (s0 s : σ), looks V s0 r = some s → μ s ≤ μ s0 + d * r.length
  | [], s0, s, h => by
    have : s0 = s := by simpa [looks] using h
    subst this; simp
  | n :: r, s0, s, h => by
    have e : looks V s0 (n :: r) = (V s0 n).bind fun s' => looks V s' r := by
      cases hv : V s0 n with
      | none => simp [looks, hv, looks_none]
      | some s' => simp [looks, hv]
    rw [e] at h
    cases hv : V s0 n with
    | none => rw [hv] at h; cases h
    | some s' =>
      rw [hv] at h
      have h1 := looks_bound μ hs r s' s h
      have h2 := hs _ _ _ hv
      rw [List.length_cons, Nat.mul_succ]; omega
theorem visit_lt {r : List Nat} {n N : Nat} (h : (r ++ [n]).Nodup) (hl : ∀ x ∈ r ++ [n], x < N) : r.length + 1 ≤ N := by
  have := nodup_len N _ h hl
  simpa using this
def intV (l : List Int) : List Value := l.map fun k => .int .i64 k
theorem intV_len (l : List Int) : (intV l).length = l.length := by simp [intV]
theorem intV_append (a b : List Int) : intV (a ++ b) = intV a ++ intV b := by simp [intV]
/-- A list that grows in a variable. -/
def growC (b : Nat) (s : List Int) : Ch := Ch.ex fun x : Option Addr × Nat => Ch.all [boxC b 24 [.slice x.1 s.length x.2], rowC 3 1 x.1 s.length x.2 (intV s)]
def frV (l : List Nd) (s : List Int) (n : Nat) : Option (List Int) := some (if (l.getD n zN).2.1 < 0 then s ++ [(l.getD n zN).1] else s)
def rmV (l : List Nd) (s : List Int) (n : Nat) : Option (List Int) := some (if 0 ≤ (l.getD n zN).2.1 then s ++ [(l.getD n zN).2.1] else s)
theorem frV_len {l : List Nd} (s : List Int) (n : Nat) (s' : List Int) (h : frV l s n = some s') : s'.length ≤ s.length + 1 := by
  unfold frV at h; injection h with h; subst h; split <;> simp
theorem rmV_len {l : List Nd} (s : List Int) (n : Nat) (s' : List Int) (h : rmV l s n = some s') : s'.length ≤ s.length + 1 := by
  unfold rmV at h; injection h with h; subst h; split <;> simp
end Go.Px.Scan
namespace Go.Proofs.Ytkacbjhiobnbfaa
open Go.Px Go.Px.Scan Go.RowKit
set_option maxHeartbeats 1000000
set_option linter.unusedSimpArgs false
set_option linter.unusedVariables false
set_option maxRecDepth 100000
attribute [-go_sem] Builtin.append_

theorem Frontier1_ok {W : World} {B ob : Nat} {l : List Nd} (hN : l.length ≤ 3000000000000) : VisOk W B l (growC ob) (frV l) [] tree_Frontier_1.id [.pointer (some ⟨ob, 0, none⟩)] := by
  intro w L k s n r vx st hk hlk hnd hlt hok hvx
  obtain ⟨A, c, rfl, hkr, z1, z2, z3⟩ := nd_form hvx
  have hsl : s.length ≤ 0 + 1 * r.length := looks_bound (fun s => s.length) frV_len r _ _ hlk
  have hrl := visit_lt hnd hlt
  obtain ⟨F, ⟨a, cw⟩, si, hch, hback⟩ := st.inEx hk
  refine tree_Frontier_1.ct fun R hR => ?_
  unfold frV at hR
  simp only at hR
  generalize hx : l.getD n zN = x at *
  obtain ⟨sy, pr, tk, ks⟩ := x
  have s1 := si.alloc #[.int .i64 sy, .int .i64 pr, .int .i64 tk, .slice A ks.length c] 61
  unfold tree_Frontier_1.run
  simp -dsimp [go_sem]
  refine SPL_intro (fun p1 => ?_) (fun p1 => ?_) <;> simp at p1
  · generalize w.heap.size = q at s1 ⊢
    generalize w.alloc (.cells #[.int .i64 sy, .int .i64 pr, .int .i64 tk, .slice A ks.length c] 61) = w1 at s1 ⊢
    have y1 := s1.box 0 rfl
    have u1 := s1.box 2 rfl
    simp [boxAt] at y1 u1
    simp -dsimp [go_sem, y1, u1]
    refine s1.append1 1 rfl Try.underlying24 iInt' rfl (by omega) (news := [Value.int .i64 sy]) rfl (by simp [Value.oneCell']) (by unfold maxLen; omega) (by unfold maxBytes; omega) fun g2 cap w3 s3 => ?_
    have s4 := s3.set 0 rfl 0 (.slice (some ⟨g2, 0, none⟩) (s.length + 1) cap)
    have y3 := s3.box 0 rfl
    simp [boxAt] at y3
    simp -dsimp [go_sem, y3]
    refine hR _ _ ⟨rfl, ?_⟩
    rw [if_pos p1]
    have s5 := s4.take 2
    refine hback _ (fun x => [boxC ob 24 [.slice x.1 (s ++ [sy]).length x.2], rowC 3 1 x.1 (s ++ [sy]).length x.2 (intV (s ++ [sy]))]) (some ⟨g2, 0, none⟩, cap) ?_
    rw [intV_append, List.length_append]
    exact s5
  · refine hR _ _ ⟨rfl, ?_⟩
    rw [if_neg (show ¬ pr < 0 by omega)]
    exact hback _ _ (a, cw) (s1.take 2)
theorem Rightmost1_ok {W : World} {B ob : Nat} {l : List Nd} (hN : l.length ≤ 3000000000000) : VisOk W B l (growC ob) (rmV l) [] tree_Rightmost_1.id [.pointer (some ⟨ob, 0, none⟩)] := by
  intro w L k s n r vx st hk hlk hnd hlt hok hvx
  obtain ⟨A, c, rfl, hkr, z1, z2, z3⟩ := nd_form hvx
  have hsl : s.length ≤ 0 + 1 * r.length := looks_bound (fun s => s.length) rmV_len r _ _ hlk
  have hrl := visit_lt hnd hlt
  obtain ⟨F, ⟨a, cw⟩, si, hch, hback⟩ := st.inEx hk
  refine tree_Rightmost_1.ct fun R hR => ?_
  unfold rmV at hR
  simp only at hR
  generalize hx : l.getD n zN = x at *
  obtain ⟨sy, pr, tk, ks⟩ := x
  have s1 := si.alloc #[.int .i64 sy, .int .i64 pr, .int .i64 tk, .slice A ks.length c] 61
  unfold tree_Rightmost_1.run
  simp -dsimp [go_sem]
  refine SPL_intro (fun p1 => ?_) (fun p1 => ?_) <;> simp at p1
  · generalize w.heap.size = q at s1 ⊢
    generalize w.alloc (.cells #[.int .i64 sy, .int .i64 pr, .int .i64 tk, .slice A ks.length c] 61) = w1 at s1 ⊢
    have y1 := s1.box 0 rfl
    have u1 := s1.box 2 rfl
    simp [boxAt] at y1 u1
    simp -dsimp [go_sem, y1, u1]
    refine s1.append1 1 rfl Try.underlying24 iInt' rfl (by omega) (news := [Value.int .i64 pr]) rfl (by simp [Value.oneCell']) (by unfold maxLen; omega) (by unfold maxBytes; omega) fun g2 cap w3 s3 => ?_
    have s4 := s3.set 0 rfl 0 (.slice (some ⟨g2, 0, none⟩) (s.length + 1) cap)
    have y3 := s3.box 0 rfl
    simp [boxAt] at y3
    simp -dsimp [go_sem, y3]
    refine hR _ _ ⟨rfl, ?_⟩
    rw [if_pos p1]
    have s5 := s4.take 2
    refine hback _ (fun x => [boxC ob 24 [.slice x.1 (s ++ [pr]).length x.2], rowC 3 1 x.1 (s ++ [pr]).length x.2 (intV (s ++ [pr]))]) (some ⟨g2, 0, none⟩, cap) ?_
    rw [intV_append, List.length_append]
    exact s5
  · refine hR _ _ ⟨rfl, ?_⟩
    rw [if_neg (show ¬ 0 ≤ pr by omega)]
    exact hback _ _ (a, cw) (s1.take 2)

theorem Frontier_ct {w : World} {B : Nat} {nv : Value} {l : List Nd} {root : Int} (h : (rSlice rNd).at1 w B nv l) (hB : B ≤ w.heap.size) (hN : l.length ≤ 3000000000000) (hkd : ∀ x ∈ l, x.2.2.2.length * 8 ≤ maxBytes) (hr : inI64 root) :
    Ct Try.prog tree_Frontier.id #[nv, .int .i64 root] w fun v w' => match lookP l false (frV l) [] root with
      | some r => ∃ a c, v = .tuple #[.slice a r.length c, .int .i64 0] ∧ St noB w w' [rowC 3 1 a r.length c (intV r)]
      | none => v = .tuple #[.slice none 0 0, .int .i64 1] ∧ Chg noB w w' := by
  refine tree_Frontier.ct fun R hR => ?_
  have s1 := ((St.refl noB w).alloc #[.slice none 0 0] 24).nilRow 3 1
  unfold tree_Frontier.run
  simp -dsimp [go_sem]
  generalize w.heap.size = q at s1 ⊢
  generalize hw1 : w.alloc (.cells #[.slice none 0 0] 24) = w1 at s1 ⊢
  have s2 : St noB w w1 [growC q []] := St.pack (f := fun x : Option Addr × Nat => [boxC q 24 [.slice x.1 ([] : List Int).length x.2], rowC 3 1 x.1 ([] : List Int).length x.2 (intV [])]) (none, 0) s1
  refine CALL_of (below_ct (ca := #[.pointer (some ⟨q, 0, none⟩)]) h hB hN hkd s2 (left_ok w) (Frontier1_ok hN) hr) ?_
  intro v w3 hp
  cases hl : lookP l false (frV l) [] root with
  | none =>
    rw [hl] at hp hR
    obtain ⟨rfl, hc3⟩ := hp
    simp -dsimp [go_sem]
    exact hR _ _ ⟨rfl, hc3⟩
  | some r =>
    rw [hl] at hp hR
    obtain ⟨rfl, s3⟩ := hp
    obtain ⟨⟨a, c⟩, s4⟩ := s3.unpack
    have y4 := s4.box 0 rfl
    simp [boxAt] at y4
    simp -dsimp [go_sem, y4]
    exact hR _ _ ⟨a, c, rfl, s4.pick [1] (by decide) rfl⟩

theorem Rightmost_ct {w : World} {B : Nat} {nv : Value} {l : List Nd} {root : Int} (h : (rSlice rNd).at1 w B nv l) (hB : B ≤ w.heap.size) (hN : l.length ≤ 3000000000000) (hkd : ∀ x ∈ l, x.2.2.2.length * 8 ≤ maxBytes) (hr : inI64 root) :
    Ct Try.prog tree_Rightmost.id #[nv, .int .i64 root] w fun v w' => match lookP l true (rmV l) [] root with
      | some r => ∃ a c, v = .tuple #[.slice a r.length c, .int .i64 0] ∧ St noB w w' [rowC 3 1 a r.length c (intV r)]
      | none => v = .tuple #[.slice none 0 0, .int .i64 1] ∧ Chg noB w w' := by
  refine tree_Rightmost.ct fun R hR => ?_
  have s1 := ((St.refl noB w).alloc #[.slice none 0 0] 24).nilRow 3 1
  unfold tree_Rightmost.run
  simp -dsimp [go_sem]
  generalize w.heap.size = q at s1 ⊢
  generalize hw1 : w.alloc (.cells #[.slice none 0 0] 24) = w1 at s1 ⊢
  have s2 : St noB w w1 [growC q []] := St.pack (f := fun x : Option Addr × Nat => [boxC q 24 [.slice x.1 ([] : List Int).length x.2], rowC 3 1 x.1 ([] : List Int).length x.2 (intV [])]) (none, 0) s1
  refine CALL_of (below_ct (ca := #[.pointer (some ⟨q, 0, none⟩)]) h hB hN hkd s2 (right_ok w) (Rightmost1_ok hN) hr) ?_
  intro v w3 hp
  cases hl : lookP l true (rmV l) [] root with
  | none =>
    rw [hl] at hp hR
    obtain ⟨rfl, hc3⟩ := hp
    simp -dsimp [go_sem]
    exact hR _ _ ⟨rfl, hc3⟩
  | some r =>
    rw [hl] at hp hR
    obtain ⟨rfl, s3⟩ := hp
    obtain ⟨⟨a, c⟩, s4⟩ := s3.unpack
    have y4 := s4.box 0 rfl
    simp [boxAt] at y4
    simp -dsimp [go_sem, y4]
    exact hR _ _ ⟨a, c, rfl, s4.pick [1] (by decide) rfl⟩
end Go.Proofs.Ytkacbjhiobnbfaa

/-
  tree: Derives.
-/
namespace Go.Px.Scan
open Go.Px Go.RowKit
def eqF (p : Int → Int → Bool) (a b : List Int) : Bool := decide (a.length = b.length) && (a.zip b).all fun x => p x.1 x.2
/-- Is a node made by its production? -/
def joinP (g : Gr) (l : List Nd) (x : Nd) : Prop := x.2.1 < g.prods.length ∧ (g.prods.getD x.2.1.toNat (0, [], 0)).1 = x.1 ∧ eqF (fun s k => decide (0 ≤ k ∧ k < l.length ∧ (l.getD k.toNat zN).1 = s)) (g.prods.getD x.2.1.toNat (0, [], 0)).2.1 x.2.2.2 = true
instance (g : Gr) (l : List Nd) (x : Nd) : Decidable (joinP g l x) := inferInstanceAs (Decidable (_ ∧ _))
/-- Is a leaf the row's next? -/
def leafP (g : Gr) (row : List Int) (at' : Nat) (x : Nd) : Prop := 0 < x.1 ∧ x.1 < g.terms.length ∧ at' < row.length ∧ row.getD at' 0 = x.1 ∧ x.2.2.1 = at'
instance (g : Gr) (row : List Int) (at' : Nat) (x : Nd) : Decidable (leafP g row at' x) := inferInstanceAs (Decidable (_ ∧ _))
def deV (g : Gr) (l : List Nd) (row : List Int) (s : Nat) (n : Nat) : Option Nat :=
  if (l.getD n zN).2.1 < 0 then (if leafP g row s (l.getD n zN) then some (s + 1) else none) else if joinP g l (l.getD n zN) then some s else none
theorem deV_len {g : Gr} {l : List Nd} {row : List Int} (s n s' : Nat) (h : deV g l row s n = some s') : s' ≤ s + 1 := by
  unfold deV at h
  split at h
  · split at h
    · injection h with h; omega
    · cases h
  · split at h
    · injection h with h; omega
    · cases h
def proofC (pv pb : Nat) (vs : List Value) (s : Nat) : Ch := Ch.ex fun _ : Unit => Ch.all [boxC pv 119 [.pointer (some ⟨pb, 0, none⟩)], boxC pb 121 (vs ++ [.int .i64 s])]
end Go.Px.Scan
namespace Go.Proofs.Ytkacbjhiobnbfaa
open Go.Px Go.Px.Scan Go.RowKit
set_option maxHeartbeats 1000000
set_option linter.unusedSimpArgs false
set_option linter.unusedVariables false
set_option maxRecDepth 100000
attribute [-go_sem] Builtin.append_ tree_proof_leaf.b2 tree_Derives.b5 tree_Derives.b3

theorem EqualFuncI_ct {w : World} {B : Nat} {va vb : Value} {a b : List Int} (ha : (rSlice rInt).at1 w B va a) (hb : (rSlice rInt).at1 w B vb b) {g : FuncId} {first cap : Array Value} {p : Int → Int → Bool}
    (hp : ∀ x y, inI64 x → inI64 y → Ct Try.prog g (first.toList ++ [Value.int .i64 x, Value.int .i64 y] ++ cap.toList).toArray w fun v w' => v = .bool (p x y) ∧ w = w') :
    Ct Try.prog slices_EqualFunc_int_int_int_int.id #[va, vb, .func (.func g) first cap] w fun r w' => r = .bool (eqF p a b) ∧ w = w' := by
  refine slices_EqualFunc_int_int_int_int.ct fun R hR => ?_
  obtain ⟨A, c, rfl, hl, hm, _⟩ := slice_form ha
  obtain ⟨A', c', rfl, hl', hm', _⟩ := slice_form hb
  unfold slices_EqualFunc_int_int_int_int.run
  simp -dsimp [go_sem]
  refine SPL_intro (fun p1 => ?_) (fun p1 => ?_) <;> simp at p1
  · have p1 : ¬ a.length = b.length := by omega
    exact hR _ _ ⟨by simp [eqF, p1], rfl⟩
  · simp -dsimp [go_sem]
    refine slices_EqualFunc_int_int_int_int.l6_intro _ _ _ _ _ _ _ (fun x w1 => ∃ k : Nat, x = .int .i64 k ∧ k ≤ a.length ∧ (((a.zip b).take k).all fun x => p x.1 x.2) = true ∧ w = w1) (fun x _ => a.length - iv x) ⟨0, rfl, by omega, by simp, rfl⟩ ?_
    rintro _ _ ⟨k, rfl, hk, hall, rfl⟩ C hC
    simp -dsimp [go_sem]
    refine SPL_intro (fun h2 => ?_) (fun h2 => ?_) <;> simp at h2
    · have hkb : k < b.length := by omega
      obtain ⟨b1, o1, rfl, hb1, hc1, hr1⟩ := Go.Px.ints_at ha h2
      obtain ⟨b2, o2, rfl, hb2, hc2, hr2⟩ := Go.Px.ints_at hb hkb
      have wk := wrap_succ h2 (Nat.le_trans hl hm)
      simp -dsimp [go_sem, h2, hc1, hc2, hkb]
      refine CALLY_of (hp a[k] b[k] hr1 hr2) ?_
      rintro _ _ ⟨rfl, rfl⟩
      have hz : (a.zip b)[k]'(by simp; omega) = (a[k], b[k]) := by simp
      cases h3 : p a[k] b[k] with
      | true =>
        simp -dsimp [go_sem, wk]
        refine hC _ _ ⟨k + 1, by simp, by omega, ?_, rfl⟩ (by simp [iv]; omega)
        rw [List.take_succ_eq_append_getElem (by simp; omega), List.all_append, hall, hz]
        simp [h3]
      | false =>
        simp -dsimp [go_sem, wk]
        refine hR _ _ ⟨?_, rfl⟩
        have : (a.zip b).all (fun x => p x.1 x.2) = false := by
          rw [List.all_eq_false]
          exact ⟨(a[k], b[k]), by rw [← hz]; exact List.getElem_mem _, by simp [h3]⟩
        simp [eqF, this]
    · have hka : k = a.length := by omega
      have : ((a.zip b).take k) = a.zip b := List.take_of_length_le (by simp; omega)
      rw [this] at hall
      simp -dsimp [go_sem]
      have p1 : a.length = b.length := by omega
      exact hR _ _ ⟨by simp [eqF, p1, hall], rfl⟩

theorem joined1_ct {w : World} {B q pb : Nat} {nv : Value} {l : List Nd} {s k : Int} (h1 : w.cell? ⟨q, 0, none⟩ = some (.pointer (some ⟨pb, 0, none⟩))) (h2 : w.cell? ⟨pb, 5, none⟩ = some nv) (h : (rSlice rNd).at1 w B nv l) :
    Ct Try.prog tree_proof_joined_1.id #[.int .i64 s, .int .i64 k, .pointer (some ⟨q, 0, none⟩)] w fun v w' => v = .bool (decide (0 ≤ k ∧ k < l.length ∧ (l.getD k.toNat zN).1 = s)) ∧ w = w' := by
  refine tree_proof_joined_1.ct fun R hR => ?_
  obtain ⟨A, c, rfl, hl1, hl2, _⟩ := slice_form h
  unfold tree_proof_joined_1.run
  simp -dsimp [go_sem]
  refine SPL_intro (fun p1 => ?_) (fun p1 => ?_) <;> simp at p1
  · simp -dsimp [go_sem, h1, h2]
    refine SPL_intro (fun p2 => ?_) (fun p2 => ?_) <;> simp at p2
    · have hkl : k.toNat < l.length := by omega
      obtain ⟨bp, op, vr, ep, hbp, x1, _⟩ := nodes_at h hkl
      subst ep
      have e : l.getD k.toNat zN = l[k.toNat] := by simp [hkl]
      simp -dsimp [go_sem, h1, h2, p1, p2, x1]
      refine hR _ _ ⟨?_, rfl⟩
      congr 1
      rw [Bool.eq_iff_iff]
      simp [p1, p2]
    · exact hR _ _ ⟨by rw [decide_eq_false]; omega, rfl⟩
  · exact hR _ _ ⟨by rw [decide_eq_false]; omega, rfl⟩

theorem joined_ct {W w : World} {B n pb : Nat} {nv : Value} {l : List Nd} {g : Gr} {v1 v2 v3 v4 v6 v7 : Value} {A4 : Option Addr} {c4 : Nat} {vx : Value} {x : Nd} {L : List Ch} {G : Nat → Prop}
    (s : St G W w L) {k : Nat} (hk : L[k]? = some (boxC pb 121 [v1, v2, v3, v4, .slice A4 g.prods.length c4, nv, v6, v7]))
    (h : (rSlice rNd).at1 w B nv l) (h4 : (rSlice rPr).at1 w B (.slice A4 g.prods.length c4) g.prods) (hvx : rNd.atN w B vx x) (hB : B ≤ w.heap.size) (hx : okN n x) (hp : 0 ≤ x.2.1) :
    Ct Try.prog tree_proof_joined.id #[.pointer (some ⟨pb, 0, none⟩), vx] w fun v w' => v = .bool (decide (joinP g l x)) ∧ Chg noB w w' := by
  refine tree_proof_joined.ct fun R hR => ?_
  obtain ⟨A, c, rfl, hkr, z1, z2, z3⟩ := nd_form hvx
  obtain ⟨sy, pr, tk, ks⟩ := x
  simp only at *
  have s1 := s.alloc #[.pointer (some ⟨pb, 0, none⟩)] 119
  have s2 := (s1.alloc #[.int .i64 sy, .int .i64 pr, .int .i64 tk, .slice A ks.length c] 61)
  have hs1 : (w.alloc (.cells #[.pointer (some ⟨pb, 0, none⟩)] 119)).heap.size = w.heap.size + 1 := by simp
  rw [hs1] at s2
  have hc2 : Chg noB w ((w.alloc (.cells #[.pointer (some ⟨pb, 0, none⟩)] 119)).alloc (.cells #[.int .i64 sy, .int .i64 pr, .int .i64 tk, .slice A ks.length c] 61)) := ((Chg.refl noB w).alloc _).alloc _
  have hkl := (List.getElem?_eq_some_iff.1 hk).1
  have b0 := s2.box k (by rw [List.append_assoc, List.getElem?_append_left hkl]; exact hk)
  have b1 := s2.box L.length (by rw [List.append_assoc, List.getElem?_append_right (Nat.le_refl _)]; simp; rfl)
  have b2 := s2.box (L.length + 1) (by rw [List.append_assoc, List.getElem?_append_right (by omega)]; simp; rfl)
  have y4 : ((w.alloc (.cells #[.pointer (some ⟨pb, 0, none⟩)] 119)).alloc (.cells #[.int .i64 sy, .int .i64 pr, .int .i64 tk, .slice A ks.length c] 61)).cell? ⟨pb, 4, none⟩ = some (.slice A4 g.prods.length c4) := b0.1.2.2.2.2.1
  unfold tree_proof_joined.run
  simp -dsimp [go_sem, y4]
  clear y4 s1 hs1
  generalize w.heap.size = q at s2 b1 b2 ⊢
  generalize ((w.alloc (.cells #[.pointer (some ⟨pb, 0, none⟩)] 119)).alloc (.cells #[.int .i64 sy, .int .i64 pr, .int .i64 tk, .slice A ks.length c] 61)) = w2 at s2 hc2 b0 b1 b2 ⊢
  simp [boxAt] at b0 b1 b2
  refine SPL_intro (fun p1 => ?_) (fun p1 => ?_) <;> simp at p1
  · obtain ⟨j, rfl⟩ : ∃ j : Nat, pr = j := ⟨pr.toNat, by omega⟩
    have hj : j < g.prods.length := by omega
    have h4' := Rep.below h4 (hc2.below hB fun _ _ => id)
    obtain ⟨bp, op, vr, ep, hbp, x1, x2, x3, hr, _⟩ := prods_at h4' hj
    subst ep
    have e : g.prods.getD ((j : Int)).toNat (0, [], 0) = g.prods[j] := by simp [hj]
    simp -dsimp [go_sem, b0, b1, b2, hj, x1, x2]
    refine SPL_intro (fun p2 => ?_) (fun p2 => ?_) <;> simp at p2
    · simp -dsimp [go_sem, b0, b1, b2, hj, x1, x2]
      have hd : Chg noB w2 w2.drew := (Chg.refl _ _).drew
      refine CALL_of (EqualFuncI_ct (B := B) (cap := #[.pointer (some ⟨q, 0, none⟩)]) (Rep.below hr (hd.below (by have := hc2.size; omega) fun _ _ => id)) (Rep.below hkr ((hc2.trans hd).below hB fun _ _ => id)) fun x y _ _ => joined1_ct (B := B) (nv := nv) (pb := pb) ?_ ?_ (Rep.below h ((hc2.trans hd).below hB fun _ _ => id))) ?_
      · simp [b1]
      · simp [b0]
      rintro _ _ ⟨rfl, rfl⟩
      refine hR _ _ ⟨?_, hc2.trans hd⟩
      congr 1
      rw [Bool.eq_iff_iff]
      simp only [joinP, e, decide_eq_true_eq]
      simp [hj, p2]
    · refine hR _ _ ⟨?_, hc2.drew⟩
      rw [decide_eq_false]
      simp only [joinP, e]
      rintro ⟨_, h2, _⟩
      exact p2 h2
  · refine hR _ _ ⟨?_, hc2.drew⟩
    rw [decide_eq_false]
    rintro ⟨h1, _⟩
    simp at h1; omega

theorem leaf_ct {W w : World} {B pb at' : Nat} {g : Gr} {v2 v3 v4 v5 v6 : Value} {A1 A6 : Option Addr} {c1 c6 : Nat} {row : List Int} {vx : Value} {x : Nd} {L : List Ch} {G : Nat → Prop}
    (s : St G W w L) {k : Nat} (hk : L[k]? = some (boxC pb 121 [.slice A1 g.terms.length c1, v2, v3, v4, v5, v6, .slice A6 row.length c6, .int .i64 at']))
    (h : (rSlice rInt).at1 w B (.slice A6 row.length c6) row) (hvx : rNd.atN w B vx x) (hB : B ≤ w.heap.size) (hat : at' ≤ 3000000000000) :
    Ct Try.prog tree_proof_leaf.id #[.pointer (some ⟨pb, 0, none⟩), vx] w fun v w' => v = .bool (decide (leafP g row at' x)) ∧ St G W w' (L.set k (boxC pb 121 [.slice A1 g.terms.length c1, v2, v3, v4, v5, v6, .slice A6 row.length c6, .int .i64 ((at' + 1 : Nat) : Int)])) := by
  refine tree_proof_leaf.ct fun R hR => ?_
  obtain ⟨A, c, rfl, hkr, z1, z2, z3⟩ := nd_form hvx
  obtain ⟨sy, pr, tk, ks⟩ := x
  simp only at *
  have s1 := s.alloc #[.int .i64 sy, .int .i64 pr, .int .i64 tk, .slice A ks.length c] 61
  have hc1 : Chg noB w (w.alloc (.cells #[.int .i64 sy, .int .i64 pr, .int .i64 tk, .slice A ks.length c] 61)) := (Chg.refl noB w).alloc _
  have hkl := (List.getElem?_eq_some_iff.1 hk).1
  unfold tree_proof_leaf.run
  simp -dsimp [go_sem]
  generalize w.heap.size = q at s1 ⊢
  generalize w.alloc (.cells #[.int .i64 sy, .int .i64 pr, .int .i64 tk, .slice A ks.length c] 61) = w1 at s1 hc1 ⊢
  have hk1 : (L ++ [boxC q 61 #[.int .i64 sy, .int .i64 pr, .int .i64 tk, .slice A ks.length c].toList])[k]? = some (boxC pb 121 [.slice A1 g.terms.length c1, v2, v3, v4, v5, v6, .slice A6 row.length c6, .int .i64 at']) := by
    rw [List.getElem?_append_left hkl]; exact hk
  have b0 := s1.box k hk1
  have b1 := s1.box L.length (by rw [List.getElem?_append_right (Nat.le_refl _)]; simp; rfl)
  simp [boxAt] at b0 b1
  have fin : ∀ (p : Bool), p = decide (leafP g row at' (sy, pr, tk, ks)) → tree_proof_leaf.b2 R (.pointer (some ⟨pb, 0, none⟩)) (.bool p) w1.drew := by
    rintro p rfl
    have wa : IntKind.i64.wrap ((at' : Int) + 1) = (at' : Int) + 1 := IntWalk.i64_in _ (by omega)
    have s2 := (s1.set k hk1 7 (.int .i64 ((at' + 1 : Nat) : Int))).old (Chg.refl noB _).drew
    have s3 := s2.take L.length
    have e : ((L ++ [boxC q 61 #[.int .i64 sy, .int .i64 pr, .int .i64 tk, .slice A ks.length c].toList]).set k (boxC pb 121 ([.slice A1 g.terms.length c1, v2, v3, v4, v5, v6, .slice A6 row.length c6, .int .i64 at'].set 7 (.int .i64 ((at' + 1 : Nat) : Int))))).take L.length = L.set k (boxC pb 121 [.slice A1 g.terms.length c1, v2, v3, v4, v5, v6, .slice A6 row.length c6, .int .i64 ((at' + 1 : Nat) : Int)]) := by
      rw [List.set_append_left _ _ hkl, List.take_left' (by simp)]; rfl
    rw [e] at s3
    unfold tree_proof_leaf.b2
    simp -dsimp [go_sem, b0, wa]
    exact hR _ _ ⟨rfl, by simpa using s3⟩
  refine SPL_intro (fun p1 => ?_) (fun p1 => ?_) <;> simp at p1
  · simp -dsimp [go_sem, b0, b1]
    refine SPL_intro (fun p2 => ?_) (fun p2 => ?_) <;> simp at p2
    · simp -dsimp [go_sem, b0, b1]
      refine SPL_intro (fun p3 => ?_) (fun p3 => ?_) <;> simp at p3
      · obtain ⟨br, or', e6, hbr, x1, _⟩ := Go.Px.ints_at (Rep.below h (hc1.below hB fun _ _ => id)) p3
        subst e6
        simp -dsimp [go_sem, b0, b1, p3, x1]
        refine SPL_intro (fun p4 => ?_) (fun p4 => ?_) <;> simp at p4
        · simp -dsimp [go_sem, b0, b1]
          refine fin _ ?_
          rw [Bool.eq_iff_iff]
          simp [leafP, p1, p2, p3, p4]
        · refine fin _ (decide_eq_false ?_).symm
          rintro ⟨_, _, _, h4, _⟩
          simp [p3] at h4; exact p4 h4
      · refine fin _ (decide_eq_false ?_).symm
        rintro ⟨_, _, h3, _⟩; omega
    · refine fin _ (decide_eq_false ?_).symm
      rintro ⟨_, h2, _⟩; simp at h2; omega
  · refine fin _ (decide_eq_false ?_).symm
    rintro ⟨h1, _⟩; simp at h1; omega

theorem nd_below {w w' : World} {B : Nat} {v : Value} {x : Nd} (h : rNd.atN w B v x) (hc : Chg noB w w') (hB : B ≤ w.heap.size) : rNd.atN w' B v x := by
  obtain ⟨cs, rfl, hc'⟩ := h
  exact ⟨cs, rfl, rNd.keep hc' (Nat.le_refl _) (hc.below hB fun _ _ => id).block⟩
theorem Derives1_ok {W : World} {B pv pb : Nat} {l : List Nd} {g : Gr} {row : List Int} {nv v2 v3 v4 : Value} {A1 A4 A6 : Option Addr} {c1 c4 c6 : Nat} (hN : l.length ≤ 3000000000000) (hB : B ≤ W.heap.size)
    (hn : (rSlice rNd).at1 W B nv l) (h4 : (rSlice rPr).at1 W B (.slice A4 g.prods.length c4) g.prods) (h6 : (rSlice rInt).at1 W B (.slice A6 row.length c6) row) :
    VisOk W B l (proofC pv pb [.slice A1 g.terms.length c1, v2, v3, v4, .slice A4 g.prods.length c4, nv, .slice A6 row.length c6]) (deV g l row) 0 tree_Derives_1.id [.pointer (some ⟨pv, 0, none⟩)] := by
  intro w L k s n r vx st hk hlk hnd hlt hok hvx
  have hsl : s ≤ 0 + 1 * r.length := looks_bound (fun s => s) deV_len r _ _ hlk
  have hrl := visit_lt hnd hlt
  have hBw : B ≤ w.heap.size := by have := st.chg.size; omega
  obtain ⟨F, ⟨⟩, si, hch, hback⟩ := st.inEx hk
  refine tree_Derives_1.ct fun R hR => ?_
  unfold deV at hR
  obtain ⟨A, c, rfl, hkr, z1, z2, z3⟩ := nd_form hvx
  generalize hx : l.getD n zN = x at *
  obtain ⟨sy, pr, tk, ks⟩ := x
  simp only at *
  have s1 := si.alloc #[.int .i64 sy, .int .i64 pr, .int .i64 tk, .slice A ks.length c] 61
  have hc1 : Chg noB w (w.alloc (.cells #[.int .i64 sy, .int .i64 pr, .int .i64 tk, .slice A ks.length c] 61)) := (Chg.refl noB w).alloc _
  unfold tree_Derives_1.run
  simp -dsimp [go_sem]
  generalize w.heap.size = q at s1 ⊢
  generalize w.alloc (.cells #[.int .i64 sy, .int .i64 pr, .int .i64 tk, .slice A ks.length c] 61) = w1 at s1 hc1 ⊢
  have b0 := s1.box 0 rfl
  have b1 := s1.box 2 rfl
  simp [boxAt] at b0 b1
  have hW1 : Chg noB W w1 := hch _ _ s1
  have hB1 : B ≤ w1.heap.size := by have := hW1.size; omega
  have rb : Below B W w1 := hW1.below hB fun _ _ => id
  refine SPL_intro (fun p1 => ?_) (fun p1 => ?_) <;> simp at p1
  · simp -dsimp [go_sem, b0, b1]
    refine CALL_of (leaf_ct s1 (k := 1) (g := g) (at' := s) rfl (Rep.below h6 rb) (nd_below hvx hc1 hBw) hB1 (by omega)) ?_
    rintro _ w2 ⟨rfl, s2⟩
    refine hR _ _ ?_
    rw [if_pos p1]
    by_cases hl : leafP g row s (sy, pr, tk, ks)
    · rw [if_pos hl, decide_eq_true hl]
      exact ⟨rfl, hback _ (fun _ => [boxC pv 119 [.pointer (some ⟨pb, 0, none⟩)], boxC pb 121 ([.slice A1 g.terms.length c1, v2, v3, v4, .slice A4 g.prods.length c4, nv, .slice A6 row.length c6] ++ [.int .i64 ((s + 1 : Nat) : Int)])]) () (s2.take 2)⟩
    · rw [if_neg hl, decide_eq_false hl]
      exact ⟨rfl, hch _ _ s2⟩
  · simp -dsimp [go_sem, b0, b1]
    refine CALL_of (joined_ct s1 (k := 1) rfl (Rep.below hn rb) (Rep.below h4 rb) (nd_below hvx hc1 hBw) hB1 hok p1) ?_
    rintro _ w2 ⟨rfl, hc2⟩
    refine hR _ _ ?_
    rw [if_neg (by omega)]
    by_cases hl : joinP g l (sy, pr, tk, ks)
    · rw [if_pos hl, decide_eq_true hl]
      exact ⟨rfl, hback _ _ () ((s1.old hc2).take 2)⟩
    · rw [if_neg hl, decide_eq_false hl]
      exact ⟨rfl, hW1.trans hc2⟩

theorem aProof (A1 A2 A3 A4 A5 A6 : Option Addr) (n1 c1 n2 c2 n3 c3 n4 c4 n5 c5 n6 c6 : Nat) (x : Int) (w : World) :
    (Instr.build 121 #[(0, .agg #[.slice A1 n1 c1, .slice A2 n2 c2, .slice A3 n3 c3, .int .i64 x, .slice A4 n4 c4]), (1, .slice A5 n5 c5), (2, .slice A6 n6 c6)]).run Try.prog w = .ok (.agg #[.slice A1 n1 c1, .slice A2 n2 c2, .slice A3 n3 c3, .int .i64 x, .slice A4 n4 c4, .slice A5 n5 c5, .slice A6 n6 c6, .int .i64 0]) w := by
  simp [go_sem, cells_slice]
attribute [go_sem ↓] aProof
/-- Does a tree derive a row? -/
noncomputable def deriveB (g : Gr) (l : List Nd) (root : Int) (row : List Int) : Bool :=
  closedB g && decide (0 ≤ root ∧ root < l.length ∧ (l.getD root.toNat zN).1 = g.start ∧ 0 ≤ (l.getD root.toNat zN).2.1) && decide (lookP l false (deV g l row) 0 root = some row.length)
theorem Derives_ct {w : World} {B : Nat} {vg nv vr : Value} {l : List Nd} {g : Gr} {row : List Int} {root : Int} (hg : rGram.atN w B vg g) (h : (rSlice rNd).at1 w B nv l) (hrow : (rSlice rInt).at1 w B vr row) (hB : B ≤ w.heap.size) (hN : l.length ≤ 3000000000000) (hkd : ∀ x ∈ l, x.2.2.2.length * 8 ≤ maxBytes) (hr : inI64 root) :
    Ct Try.prog tree_Derives.id #[vg, nv, .int .i64 root, vr] w fun v w' => v = .bool (deriveB g l root row) ∧ Chg noB w w' := by
  refine tree_Derives.ct fun R hR => ?_
  obtain ⟨A1, c1, A2, c2, A3, c3, A4, c4, rfl, h1, h2, h3, hst, h4, k1, k2, k3, k4⟩ := (rGram_open hg).ex
  obtain ⟨A6, c6, rfl, hr1, hr2, _⟩ := slice_form hrow
  obtain ⟨A, cn, rfl, hl1, hl2, _⟩ := slice_form h
  have s0 := (St.refl noB w).alloc #[.slice A1 g.terms.length c1, .slice A2 g.nons.length c2, .slice A3 g.levels.length c3, .int .i64 g.start, .slice A4 g.prods.length c4] 27
  unfold tree_Derives.run
  simp -dsimp [go_sem]
  generalize w.heap.size = q at s0 ⊢
  generalize w.alloc (.cells #[.slice A1 g.terms.length c1, .slice A2 g.nons.length c2, .slice A3 g.levels.length c3, .int .i64 g.start, .slice A4 g.prods.length c4] 27) = w1 at s0 ⊢
  have sd := s0.old (Chg.refl noB _).drew
  refine CALL_of (Closed_ct (rGram_below hg (sd.chg.below hB fun _ _ => id)) (by have := sd.chg.size; omega)) ?_
  rintro _ w3 ⟨rfl, hc3⟩
  have s3 := sd.old hc3
  have b0 := s3.box 0 rfl
  simp [boxAt] at b0
  have rb : ∀ {w'}, Chg noB w w' → Below B w w' := fun hc => hc.below hB fun _ _ => id
  have hno' : ∀ {x1 x2 x3 x4}, deriveB g l root row = false → tree_Derives.b5 R x1 x2 x3 x4 (.bool true) w3 := fun hd => by
    unfold tree_Derives.b5
    simp -dsimp [go_sem]
    exact hR _ _ ⟨by rw [hd], s3.chg⟩
  cases hcl : closedB g with
  | false =>
    simp -dsimp [go_sem]
    exact hno' (by simp [deriveB, hcl])
  | true =>
    simp -dsimp [go_sem]
    refine SPL_intro (fun p1 => ?_) (fun p1 => ?_) <;> simp at p1
    · exact hno' (by have : ¬ 0 ≤ root := by omega
                     simp [deriveB, this])
    · simp -dsimp [go_sem]
      refine SPL_intro (fun p2 => ?_) (fun p2 => ?_) <;> simp at p2
      · exact hno' (by have : ¬ root < l.length := by omega
                       simp [deriveB, this])
      · obtain ⟨q', rfl⟩ : ∃ q' : Nat, root = q' := ⟨root.toNat, by omega⟩
        have hql : q' < l.length := by omega
        obtain ⟨bp, op, vr, ep, hbp, x1, x2, _⟩ := nodes_at (Rep.below h (rb s3.chg)) hql
        subst ep
        have e : l.getD ((q' : Int)).toNat zN = l[q'] := by simp [hql]
        simp -dsimp [go_sem, hql, x1, x2, b0]
        refine SPL_intro (fun p3 => ?_) (fun p3 => ?_) <;> simp at p3
        · exact hno' (by simp only [deriveB, e]; simp [p3])
        · simp -dsimp [go_sem, hql, x1, x2, b0]
          unfold tree_Derives.b5
          refine SPL_intro (fun p4 => ?_) (fun p4 => ?_) <;> simp at p4
          · exact hR _ _ ⟨by have : ¬ 0 ≤ l[q'].2.1 := by omega
                             simp only [deriveB, e]; simp [this], s3.chg⟩
          · have hdr : deriveB g l q' row = decide (lookP l false (deV g l row) 0 q' = some row.length) := by
              simp only [deriveB, e, hcl]; simp [p3, p4, hql]
            rw [hdr] at hR
            unfold tree_Derives.b3
            have s4 := (s3.alloc #[.slice A1 g.terms.length c1, .slice A2 g.nons.length c2, .slice A3 g.levels.length c3, .int .i64 g.start, .slice A4 g.prods.length c4, .slice (some ⟨bp, op, none⟩) l.length cn, .slice A6 row.length c6, .int .i64 0] 121).alloc #[.pointer (some ⟨w3.heap.size, 0, none⟩)] 119
            have hs4 : (w3.alloc (.cells #[.slice A1 g.terms.length c1, .slice A2 g.nons.length c2, .slice A3 g.levels.length c3, .int .i64 g.start, .slice A4 g.prods.length c4, .slice (some ⟨bp, op, none⟩) l.length cn, .slice A6 row.length c6, .int .i64 0] 121)).heap.size = w3.heap.size + 1 := by simp
            rw [hs4] at s4
            simp -dsimp [go_sem, b0]
            clear hs4
            generalize hw4 : (w3.alloc (.cells #[.slice A1 g.terms.length c1, .slice A2 g.nons.length c2, .slice A3 g.levels.length c3, .int .i64 g.start, .slice A4 g.prods.length c4, .slice (some ⟨bp, op, none⟩) l.length cn, .slice A6 row.length c6, .int .i64 0] 121)).alloc (.cells #[.pointer (some ⟨w3.heap.size, 0, none⟩)] 119) = w4 at s4 ⊢
            clear hw4
            generalize w3.heap.size = pb at s4 ⊢
            have s5 : St noB w w4 [proofC (pb + 1) pb [.slice A1 g.terms.length c1, .slice A2 g.nons.length c2, .slice A3 g.levels.length c3, .int .i64 g.start, .slice A4 g.prods.length c4, .slice (some ⟨bp, op, none⟩) l.length cn, .slice A6 row.length c6] 0] := by
              unfold proofC
              exact St.pack (f := fun _ : Unit => [boxC (pb + 1) 119 [.pointer (some ⟨pb, 0, none⟩)], boxC pb 121 ([.slice A1 g.terms.length c1, .slice A2 g.nons.length c2, .slice A3 g.levels.length c3, .int .i64 g.start, .slice A4 g.prods.length c4, .slice (some ⟨bp, op, none⟩) l.length cn, .slice A6 row.length c6] ++ [.int .i64 ((0 : Nat) : Int)])]) () (s4.pick [2, 1] (by decide) rfl)
            refine CALL_of (below_ct (ca := #[.pointer (some ⟨pb + 1, 0, none⟩)]) h hB hN hkd s5 (left_ok w) (Derives1_ok hN hB h h4 hrow) hr) ?_
            intro v w5 hp
            cases hl : lookP l false (deV g l row) 0 q' with
            | none =>
              rw [hl] at hp hR
              obtain ⟨rfl, hc5⟩ := hp
              simp -dsimp [go_sem]
              exact hR _ _ ⟨by simp, hc5⟩
            | some r =>
              rw [hl] at hp hR
              obtain ⟨rfl, s6⟩ := hp
              obtain ⟨⟨⟩, s7⟩ := s6.unpack
              have y0 := s7.box 0 rfl
              have y1 := s7.box 1 rfl
              simp [boxAt] at y0 y1
              simp -dsimp [go_sem, y0, y1]
              refine hR _ _ ⟨?_, s7.chg⟩
              congr 1
              rw [Bool.eq_iff_iff]
              simp; omega
end Go.Proofs.Ytkacbjhiobnbfaa

