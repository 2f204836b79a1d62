/-
  Texts of this claim: Ar1, Ar2, Ar3, Ar4, Le3a.
-/
import Derived.Test.YtkacbjhiobnbfaaTd
import Derived.Test.YtkacbjhiobnbfaaTa
/-
  tree: an arena; a leaf more.
-/
namespace Go.Px.Scan
open Go.Px Go.RowKit
instance (n : Nat) (met : List Nat) (ks : List Int) : Decidable (kidsOk n met ks) := inferInstanceAs (Decidable (_ ∧ _))
/-- Where an arena's rows lie. -/
abbrev ArX := Option Addr × Nat × Option Addr × Nat × List Value
def AR (T b : Nat) (l : List Nd) (met : List Nat) (x : ArX) : List Ch :=
  [boxC b T [.slice x.1 l.length x.2.1, .slice x.2.2.1 l.length x.2.2.2.1], rowC 61 4 x.1 l.length x.2.1 ((l.zip x.2.2.2.2).flatMap cNd), rowC 4 1 x.2.2.1 l.length x.2.2.2.1 (metV l.length met), rowsC 3 1 x.2.2.2.2 (l.map fun y => y.2.2.2.flatMap cNdI)]
/-- An arena. -/
def arC (T b : Nat) (l : List Nd) (met : List Nat) : Ch := Ch.ex fun x => Ch.all (AR T b l met x)
def leafS (l : List Nd) (met : List Nat) (sy tk : Int) : (Int × Int) × (List Nd × List Nat) := if sy < 0 ∨ tk < 0 then ((0, 1), (l, met)) else ((l.length, 0), (l ++ [(sy, -1, tk, [])], met))
def joinS (l : List Nd) (met : List Nat) (sy pr : Int) (ks : List Int) : (Int × Int) × (List Nd × List Nat) := if sy < 0 ∨ pr < 0 ∨ ¬ kidsOk l.length met ks then ((0, 1), (l, met)) else ((l.length, 0), (l ++ [(sy, pr, 0, ks)], kidsN (0, 0, 0, ks) ++ met))
theorem metV_more {N : Nat} {met : List Nat} (h : ∀ i ∈ met, i < N) : metV N met ++ [.bool false] = metV (N + 1) met := by
  unfold metV
  rw [List.range_succ, List.map_append]
  have : N ∉ met := fun hN => by have := h N hN; omega
  simp [this]
theorem zip_more {l : List Nd} {vs : List Value} {x : Nd} {v : Value} (h : vs.length = l.length) : ((l ++ [x]).zip (vs ++ [v])).flatMap cNd = (l.zip vs).flatMap cNd ++ cNd (x, v) := by
  rw [List.zip_append h.symm, List.flatMap_append]; simp
end Go.Px.Scan
namespace Go.Proofs.Ytkacbjhiobnbfaa
open Go.Px Go.Px.Scan Go.RowKit
set_option maxHeartbeats 1000000
set_option linter.unusedSimpArgs false
set_option linter.unusedVariables false
set_option maxRecDepth 100000
attribute [-go_sem] Builtin.append_ tree_Arena_Leaf.b5 tree_Arena_Leaf.b3 tree_Arena_Leaf.b3_1 tree_Arena_Leaf.b4_1

theorem uFlags : Try.prog.underlying 68 = some (.slice 4) := Try.underlying68
theorem nd_row {l : List Nd} {vs : List Value} : ((l.zip vs).flatMap cNd).length = (min l.length vs.length) * 4 := by
  rw [flat_len' (size := 4) (l.zip vs) (fun _ _ => rfl), List.length_zip]
theorem bLeaf (x y z : Int) (w : World) : (Instr.build 61 #[(0, .int .i64 x), (1, .int .i64 y), (2, .int .i64 z)]).run Try.prog w = .ok (.agg #[.int .i64 x, .int .i64 y, .int .i64 z, .slice none 0 0]) w := by simp [go_sem]
theorem bNode1 (x y z : Int) (A : Option Addr) (n c : Nat) (w : World) : (Instr.buildSlice 49 1 #[(0, .agg #[.int .i64 x, .int .i64 y, .int .i64 z, .slice A n c])]).run Try.prog w = .ok (.slice (some ⟨w.heap.size, 0, none⟩) 1 1) (w.alloc (.cells #[.int .i64 x, .int .i64 y, .int .i64 z, .slice A n c] 61)) := by
  simp [go_sem, Value.cells]
theorem bFlag1 (x : Bool) (w : World) : (Instr.buildSlice 68 1 #[(0, .bool x)]).run Try.prog w = .ok (.slice (some ⟨w.heap.size, 0, none⟩) 1 1) (w.alloc (.cells #[.bool x] 4)) := by
  simp [go_sem, Value.cells]
attribute [go_sem ↓] bLeaf bNode1 bFlag1

theorem add_ct {G : Nat → Prop} {W w : World} {b : Nat} {l : List Nd} {met : List Nat} {x : ArX} {sy pr tk : Int} {ks : List Int} {ka : Option Addr} {kc : Nat} (s : St G W w (AR 81 b l met x ++ [rowC 3 1 ka ks.length kc (ks.flatMap cNdI)])) (hm : ∀ i ∈ met, i < l.length) (hb : (l.length + 1) * 48 ≤ maxBytes) :
    Ct Try.prog tree_Arena_add.id #[.pointer (some ⟨b, 0, none⟩), .agg #[.int .i64 sy, .int .i64 pr, .int .i64 tk, .slice ka ks.length kc]] w fun v w' => v = .tuple #[.int .i64 l.length, .int .i64 0] ∧ ∃ x', St G W w' (AR 81 b (l ++ [(sy, pr, tk, ks)]) met x') := by
  refine tree_Arena_add.ct fun R hR => ?_
  obtain ⟨an, cn, at', ct, vs⟩ := x
  have hvs : vs.length = l.length := by
    obtain ⟨F, ho, _⟩ := s.get (k := 3) rfl
    have := ho.1; simpa using this
  have hl : l.length ≤ 3000000000000 := by unfold maxBytes at hb; omega
  have y0 := s.box 0 rfl
  simp [boxAt] at y0
  have s1 := (s.alloc #[.int .i64 sy, .int .i64 pr, .int .i64 tk, .slice ka ks.length kc] 61).take 5
  have y1 := s1.box 0 rfl
  have s2 := s1.alloc #[.int .i64 sy, .int .i64 pr, .int .i64 tk, .slice ka ks.length kc] 61
  have y2 := s2.box 0 rfl
  simp only [boxAt] at y1 y2
  have e1 := y1.1.1
  have e2 := y2.1.1
  have hsz : (w.alloc (.cells #[.int .i64 sy, .int .i64 pr, .int .i64 tk, .slice ka ks.length kc] 61)).heap.size = w.heap.size + 1 := by simp
  unfold tree_Arena_add.run
  simp -dsimp [go_sem, e1, e2]
  rw [← hsz]
  clear y1 y2 e1 e2 s2 hsz
  generalize w.alloc (.cells #[.int .i64 sy, .int .i64 pr, .int .i64 tk, .slice ka ks.length kc] 61) = w1 at s1 ⊢
  have s1 : St G W w1 (AR 81 b l met (an, cn, at', ct, vs) ++ [rowC 3 1 ka ks.length kc (ks.flatMap cNdI)]) := s1
  refine s1.append1d 1 rfl uNds iNd rfl (by omega) (news := [.int .i64 sy, .int .i64 pr, .int .i64 tk, .slice ka ks.length kc]) rfl (by simp [Value.oneCell']) (by unfold maxLen; omega) (by omega) fun g3 c3 w3 s3 => ?_
  have y3 := s3.box 0 rfl
  simp [boxAt] at y3
  have s4 := s3.set 0 rfl 0 (.slice (some ⟨g3, 0, none⟩) (l.length + 1) c3)
  have y4 := s4.box 0 rfl
  simp [boxAt] at y4
  simp -dsimp [go_sem, y3, y4]
  have hsz4 : (w3.setCell ⟨b, 0, none⟩ (.slice (some ⟨g3, 0, none⟩) (l.length + 1) c3)).heap.size = w3.heap.size := by simp
  rw [← hsz4]
  clear hsz4
  generalize w3.setCell ⟨b, 0, none⟩ (.slice (some ⟨g3, 0, none⟩) (l.length + 1) c3) = w4 at s4 y4 ⊢
  refine s4.append1 2 rfl uFlags iBool' rfl (by omega) (news := [.bool false]) rfl (by simp [Value.oneCell']) (by unfold maxLen; omega) (by unfold maxBytes; omega) fun g5 c5 w5 s5 => ?_
  have y5 := s5.box 0 rfl
  simp [boxAt] at y5
  have s6 := s5.set 0 rfl 1 (.slice (some ⟨g5, 0, none⟩) (l.length + 1) c5)
  have y6 := s6.box 0 rfl
  simp [boxAt] at y6
  have wl : IntKind.i64.wrap (l.length : Int) = (l.length : Int) := IntWalk.i64_in _ (by omega)
  simp -dsimp [go_sem, y5, y6, wl]
  refine hR _ _ ⟨rfl, (some ⟨g3, 0, none⟩, c3, some ⟨g5, 0, none⟩, c5, vs ++ [.slice ka ks.length kc]), ?_⟩
  have s7 := (s6.merge (j := 4) (k := 3) rfl rfl (by omega) (e := rowsC 3 1 (vs ++ [.slice ka ks.length kc]) ((l.map fun y => y.2.2.2.flatMap cNdI) ++ [ks.flatMap cNdI])) fun F F' h1 h2 => rowsC_snoc (size := 1) h1 h2).take 4
  have e7 : (((l ++ [(sy, pr, tk, ks)]).zip (vs ++ [.slice ka ks.length kc])).flatMap cNd) = (l.zip vs).flatMap cNd ++ [.int .i64 sy, .int .i64 pr, .int .i64 tk, .slice ka ks.length kc] := zip_more hvs
  unfold AR
  simp only [List.length_append, List.length_cons, List.length_nil, Nat.zero_add, e7, ← metV_more hm, List.map_append, List.map_cons, List.map_nil]
  exact s7

theorem Leaf_ct {G : Nat → Prop} {W w : World} {L : List Ch} {k b : Nat} {l : List Nd} {met : List Nat} {sy tk : Int} (s : St G W w L) (hk : L[k]? = some (arC 81 b l met)) (hm : ∀ i ∈ met, i < l.length) (hb : (l.length + 1) * 48 ≤ maxBytes) :
    Ct Try.prog tree_Arena_Leaf.id #[.pointer (some ⟨b, 0, none⟩), .int .i64 sy, .int .i64 tk] w fun v w' => v = .tuple #[.int .i64 (leafS l met sy tk).1.1, .int .i64 (leafS l met sy tk).1.2] ∧ St G W w' (L.set k (arC 81 b (leafS l met sy tk).2.1 (leafS l met sy tk).2.2)) := by
  refine tree_Arena_Leaf.ct fun R hR => ?_
  have hbad : sy < 0 ∨ tk < 0 → tree_Arena_Leaf.b5 R (.pointer (some ⟨b, 0, none⟩)) (.int .i64 sy) (.int .i64 tk) (.bool true) w := fun h => by
    unfold tree_Arena_Leaf.b5
    simp -dsimp [go_sem]
    unfold leafS at hR
    rw [if_pos h] at hR
    exact hR _ _ ⟨rfl, by rw [set_same hk]; exact s⟩
  unfold tree_Arena_Leaf.run
  simp -dsimp [go_sem]
  unfold tree_Arena_Leaf.b4_1
  simp -dsimp [go_sem]
  refine SPL_intro (fun p1 => ?_) (fun p1 => ?_) <;> simp at p1
  · exact hbad (Or.inl p1)
  simp -dsimp [go_sem]
  unfold tree_Arena_Leaf.b5
  refine SPL_intro (fun p2 => ?_) (fun p2 => ?_) <;> simp at p2
  · have := hbad (Or.inr p2)
    unfold tree_Arena_Leaf.b5 at this
    simpa -dsimp [go_sem] using this
  unfold tree_Arena_Leaf.b3
  obtain ⟨F, x, si, hch, hback⟩ := s.inEx hk
  simp -dsimp [go_sem]
  refine CALL_of (add_ct (G := F) (W := w) (ks := []) (ka := none) (kc := 0) (si.nilRow 3 1) hm hb) ?_
  rintro _ w2 ⟨rfl, x', s2⟩
  unfold tree_Arena_Leaf.b3_1
  simp -dsimp [go_sem]
  refine hR _ _ ?_
  unfold leafS
  rw [if_neg (by omega)]
  exact ⟨rfl, hback _ _ x' s2⟩

theorem ArLen_ct {G : Nat → Prop} {W w : World} {L : List Ch} {k b : Nat} {l : List Nd} {met : List Nat} (s : St G W w L) (hk : L[k]? = some (arC 81 b l met)) :
    Ct Try.prog tree_Arena_Len.id #[.pointer (some ⟨b, 0, none⟩)] w fun v w' => v = .int .i64 l.length ∧ w = w' := by
  refine tree_Arena_Len.ct fun R hR => ?_
  obtain ⟨F, x, si, hch, hback⟩ := s.inEx hk
  have y0 := si.box 0 rfl
  simp [boxAt] at y0
  unfold tree_Arena_Len.run
  simp -dsimp [go_sem, y0]
  exact hR _ _ ⟨rfl, rfl⟩
end Go.Proofs.Ytkacbjhiobnbfaa

/-
  tree: kids that are free; a joined node more.
-/
namespace Go.Px.Scan
open Go.Px Go.RowKit
theorem metV_unset {N : Nat} {met : List Nat} {k : Nat} (h : k ∉ met) : (metV N (k :: met)).set k (.bool false) = metV N met := by
  apply List.ext_getElem
  · simp [metV]
  · intro i h1 h2
    simp only [metV, List.getElem_set, List.getElem_map, List.getElem_range]
    by_cases e : k = i
    · subst e; simp [h]
    · rw [if_neg e]; congr 1; simp [Ne.symm e]
end Go.Px.Scan
namespace Go.Proofs.Ytkacbjhiobnbfaa
open Go.Px Go.Px.Scan Go.RowKit
set_option maxHeartbeats 1000000
set_option linter.unusedSimpArgs false
set_option linter.unusedVariables false
set_option maxRecDepth 100000
attribute [-go_sem] Builtin.append_ tree_Arena_free.b4 tree_Arena_free.b14 tree_Arena_free.b15 tree_Arena_free.b18 tree_Arena_free.b22 tree_Arena_free.b17 tree_Arena_free.b21_1 tree_Arena_free_1.b1_1 tree_Arena_free_1.b1_2

theorem free1_ct {w : World} {q b : Nat} {l : List Nd} {met : List Nat} {x : ArX} {G : Nat → Prop} {W : World} {L : List Ch} (s : St G W w (AR 81 b l met x ++ L)) (hq : w.cell? ⟨q, 0, none⟩ = some (.pointer (some ⟨b, 0, none⟩))) {k : Int} (hk : inI64 k) :
    Ct Try.prog tree_Arena_free_1.id #[.int .i64 k, .pointer (some ⟨q, 0, none⟩)] w fun v w' => v = .bool (decide (k < 0 ∨ (l.length : Int) ≤ k ∨ k.toNat ∈ met)) ∧ w = w' := by
  refine tree_Arena_free_1.ct fun R hR => ?_
  have y0 := s.box 0 rfl
  simp [boxAt] at y0
  unfold tree_Arena_free_1.run
  simp -dsimp [go_sem]
  refine SPL_intro (fun p1 => ?_) (fun p1 => ?_) <;> simp at p1
  · exact hR _ _ ⟨by simp [p1], rfl⟩
  unfold tree_Arena_free_1.b1_2
  simp -dsimp [go_sem, hq, y0]
  refine SPL_intro (fun p2 => ?_) (fun p2 => ?_) <;> simp at p2
  · exact hR _ _ ⟨by simp [p2], rfl⟩
  obtain ⟨j, rfl⟩ : ∃ j : Nat, k = j := ⟨k.toNat, by omega⟩
  have hj : j < l.length := by omega
  obtain ⟨gm, em, cm, fm⟩ := s.rowAt 2 rfl (j := j) (by rw [metV_len]; exact hj)
  have cmv : (metV l.length met)[j]'(by rw [metV_len]; exact hj) = .bool (decide (j ∈ met)) := by
    have := metV_get (met := met) hj
    rw [List.getElem?_eq_getElem (by rw [metV_len]; exact hj)] at this
    injection this
  rw [cmv] at cm
  unfold tree_Arena_free_1.b1_1
  rw [em] at y0
  simp -dsimp [go_sem, hq, y0, hj, cm]
  have h1 : ¬ ((j : Int) < 0) := by omega
  have h2 : ¬ ((l.length : Int) ≤ j) := by omega
  exact hR _ _ ⟨by simp [h2]; intro h; omega, rfl⟩

theorem free_ct {G : Nat → Prop} {W w : World} {L : List Ch} {k b : Nat} {l : List Nd} {met : List Nat} {vk : Value} {ks : List Int} (s : St G W w L) (hk : L[k]? = some (arC 81 b l met)) (hm : ∀ i ∈ met, i < l.length) (hN : l.length ≤ 3000000000000)
    (hrd : ∀ w' c, St G W w' (L.set k c) → (rSlice rInt).at1 w' w'.heap.size vk ks) :
    Ct Try.prog tree_Arena_free.id #[.pointer (some ⟨b, 0, none⟩), vk] w fun v w' => v = .bool (decide (kidsOk l.length met ks)) ∧ St G W w' (L.set k (arC 81 b l (if kidsOk l.length met ks then kidsN (0, 0, 0, ks) ++ met else met))) := by
  refine tree_Arena_free.ct fun R hR => ?_
  obtain ⟨F, x, si, hch, hback⟩ := s.inEx hk
  have rd : ∀ w' met' x' M, St F w w' (AR 81 b l met' x' ++ M) → (rSlice rInt).at1 w' w'.heap.size vk ks := fun w' met' x' M s' => hrd w' _ (hback w' (AR 81 b l met') x' (s'.take 4))
  obtain ⟨Ak, ck, rfl, hk1, hk2, _⟩ := slice_form (rd w met x [] (by simpa using si))
  have s1 := si.alloc #[.pointer (some ⟨b, 0, none⟩)] 65
  unfold tree_Arena_free.run
  simp -dsimp [go_sem]
  generalize w.heap.size = q at s1 ⊢
  generalize w.alloc (.cells #[.pointer (some ⟨b, 0, none⟩)] 65) = w1 at s1 ⊢
  have y1 := (s1.box 4 rfl).1.1
  refine CALL_of (ContainsFuncI_ct (p := fun k => decide (k < 0 ∨ (l.length : Int) ≤ k ∨ k.toNat ∈ met)) (rd _ _ _ _ s1) fun k _ hi => free1_ct s1 y1 hi) ?_
  rintro _ _ ⟨rfl, rfl⟩
  cases ha : ks.any (fun k => decide (k < 0 ∨ (l.length : Int) ≤ k ∨ k.toNat ∈ met)) with
  | true =>
    have hno : ¬ kidsOk l.length met ks := by
      rintro ⟨h1, h2, h3⟩
      obtain ⟨y, hy, h4⟩ := List.any_eq_true.1 ha
      have h5 := h1 y hy
      have h6 := h3 y.toNat (List.mem_map_of_mem hy)
      simp at h4
      rcases h4 with h4 | h4 | h4
      · omega
      · omega
      · exact h6 h4
    simp -dsimp [go_sem]
    refine hR _ _ ⟨by rw [decide_eq_false hno], ?_⟩
    rw [if_neg hno]
    exact hback _ _ x (s1.take 4)
  | false =>
    have hall : ∀ y ∈ ks, 0 ≤ y ∧ y < l.length ∧ y.toNat ∉ met := by
      intro y hy
      have := List.any_eq_false.1 ha y hy
      simp at this
      exact ⟨by omega, by omega, this.2.2⟩
    simp -dsimp [go_sem]
    unfold tree_Arena_free.b4
    simp -dsimp [go_sem]
    refine tree_Arena_free.l6_intro _ _ _ _ _ _ _ (fun y w' => ∃ i : Nat, y = .int .i64 i ∧ i ≤ ks.length ∧ freshN met ((ks.take i).map Int.toNat) ∧ St F w w' (AR 81 b l ((ks.take i).map Int.toNat ++ met) x ++ [boxC q 65 [.pointer (some ⟨b, 0, none⟩)]])) (fun y _ => ks.length - iv y) ⟨0, rfl, by omega, by simp [freshN], by simpa using s1⟩ ?_
    rintro _ w2 ⟨i, rfl, hi, hf, s2⟩ C hC
    simp -dsimp [go_sem]
    refine SPL_intro (fun p1 => ?_) (fun p1 => ?_) <;> simp at p1
    · have wi : IntKind.i64.wrap ((i : Int) + 1) = (i : Int) + 1 := wrap_succ (n := ks.length) (by omega) (by omega)
      have hr2 := rd _ _ _ _ s2
      obtain ⟨g, o, rfl, _, ck1, _⟩ := Go.Px.ints_at hr2 p1
      obtain ⟨hk0, hkl, hkm⟩ := hall _ (List.getElem_mem p1)
      obtain ⟨j, hj⟩ : ∃ j : Nat, ks[i] = j := ⟨ks[i].toNat, by omega⟩
      rw [hj] at ck1 hk0 hkl hkm
      have hjN : j < l.length := by omega
      have y2 := s2.box 0 rfl
      have z2 := s2.box 4 rfl
      simp [boxAt] at y2 z2
      obtain ⟨met1, hmet1⟩ : ∃ met1, (ks.take i).map Int.toNat ++ met = met1 := ⟨_, rfl⟩
      rw [hmet1] at s2
      obtain ⟨gm, em, cm, fm⟩ := s2.rowAt 2 rfl (j := j) (by rw [metV_len]; exact hjN)
      have cmv : (metV l.length met1)[j]'(by rw [metV_len]; exact hjN) = .bool (decide (j ∈ met1)) := by
        have := metV_get (met := met1) hjN
        rw [List.getElem?_eq_getElem (by rw [metV_len]; exact hjN)] at this
        injection this
      rw [cmv] at cm
      have hmi : (ks.map Int.toNat)[i]'(by simpa using p1) = j := by simp [hj]
      have htm : (ks.map Int.toNat).take i = (ks.take i).map Int.toNat := by simp
      obtain ⟨x1, x2, x3, x4, x5⟩ := x
      dsimp only at em
      subst em
      simp -dsimp [go_sem, p1, ck1]
      unfold tree_Arena_free.b14
      simp -dsimp [go_sem, z2, y2, hjN, cm]
      unfold tree_Arena_free.b15
      refine SPL_intro (fun p4 => ?_) (fun p4 => ?_)
      · have hin : j ∈ met1 := by simpa using p4
        have hno : ¬ kidsOk l.length met ks := fun h => fresh_not (ks := ks.map Int.toNat) (i := i) (by simpa using p1) (by rw [hmi, htm, hmet1]; exact hin) h.2
        unfold tree_Arena_free.b18
        have hick : i ≤ ck := by omega
        simp -dsimp [go_sem, hick]
        refine tree_Arena_free.l20_intro _ _ _ _ _ _ _ (fun y w' => ∃ d : Nat, y = .int .i64 d ∧ d ≤ i ∧ St F w w' (AR 81 b l (((ks.take i).drop d).map Int.toNat ++ met) (x1, x2, some ⟨gm, 0, none⟩, x4, x5) ++ [boxC q 65 [.pointer (some ⟨b, 0, none⟩)]])) (fun y _ => i - iv y) ⟨0, rfl, by omega, by rw [← hmet1] at s2; simpa using s2⟩ ?_
        rintro _ w3 ⟨d, rfl, hd, s3⟩ C2 hC2
        simp -dsimp [go_sem]
        refine SPL_intro (fun p5 => ?_) (fun p5 => ?_) <;> simp at p5
        · have hdk : d < ks.length := by omega
          obtain ⟨g', o', eg, _, ck3, _⟩ := Go.Px.ints_at (rd _ _ _ _ s3) hdk
          injection eg with eg; injection eg with eg1 eg2; subst eg1 eg2
          obtain ⟨hd0, hdl, hdm⟩ := hall _ (List.getElem_mem hdk)
          obtain ⟨t, ht⟩ : ∃ t : Nat, ks[d] = t := ⟨ks[d].toNat, by omega⟩
          rw [ht] at ck3 hd0 hdl hdm
          have htN : t < l.length := by omega
          have y3 := s3.box 0 rfl
          have z3 := s3.box 4 rfl
          simp [boxAt] at y3 z3
          have hdt : d < (ks.take i).length := by rw [List.length_take]; omega
          have et : (ks.take i).drop d = (t : Int) :: (ks.take i).drop (d + 1) := by
            rw [List.drop_eq_getElem_cons hdt]
            congr 1
            rw [List.getElem_take, ht]
          have hnin : t ∉ ((ks.take i).drop (d + 1)).map Int.toNat ++ met := by
            intro h
            rcases List.mem_append.1 h with h | h
            · have hnd := hf.1
              rw [← List.take_append_drop d (ks.take i), List.map_append, List.nodup_append, et, List.map_cons, List.nodup_cons] at hnd
              exact hnd.2.1.1 (by simpa using h)
            · exact hdm (by simpa using h)
          obtain ⟨gm', em', cm3, fm3⟩ := s3.rowAt 2 rfl (j := t) (by rw [metV_len]; exact htN)
          injection em' with em'; injection em' with em'; subst em'
          have cmv3 : (metV l.length (((ks.take i).drop d).map Int.toNat ++ met))[t]'(by rw [metV_len]; exact htN) = .bool (decide (t ∈ ((ks.take i).drop d).map Int.toNat ++ met)) := by
            have := metV_get (met := ((ks.take i).drop d).map Int.toNat ++ met) htN
            rw [List.getElem?_eq_getElem (by rw [metV_len]; exact htN)] at this
            injection this
          rw [cmv3] at cm3
          have wd : IntKind.i64.wrap ((d : Int) + 1) = (d : Int) + 1 := wrap_succ (n := ks.length) (by omega) (by omega)
          have s4 := s3.setRow 2 rfl t (.bool false)
          rw [et, List.map_cons, List.cons_append, Int.toNat_natCast, metV_unset hnin] at s4
          unfold tree_Arena_free.b21_1
          simp -dsimp [go_sem, p5, ck3, z3, y3, htN, cm3, fm3, wd]
          exact hC2 _ _ ⟨d + 1, by simp, by omega, s4⟩ (by simp [iv]; omega)
        · have hdi : d = i := by omega
          subst hdi
          have e0 : (ks.take d).drop d = [] := List.drop_eq_nil_of_le (by rw [List.length_take]; omega)
          rw [e0] at s3
          unfold tree_Arena_free.b17
          refine hR _ _ ⟨by rw [decide_eq_false hno], ?_⟩
          rw [if_neg hno]
          exact hback _ _ (x1, x2, some ⟨gm, 0, none⟩, x4, x5) (s3.take 4)
      · have hnin : j ∉ met1 := by simpa using p4
        have hf2 : freshN met ((ks.take (i + 1)).map Int.toNat) := by
          have := fresh_take (met := met) (ks := ks.map Int.toNat) (i := i) (by rw [htm]; exact hf) (by simpa using p1) (by rw [hmi, htm, hmet1]; exact hnin)
          simpa using this
        have s3 := s2.setRow 2 rfl j (.bool true)
        rw [metV_set] at s3
        have et : ks.take (i + 1) = ks.take i ++ [(j : Int)] := by rw [List.take_succ_eq_append_getElem p1, hj]
        have e2 : metV l.length ((ks.take (i + 1)).map Int.toNat ++ met) = metV l.length (j :: met1) := metV_congr fun x => by rw [et, ← hmet1]; simp; exact or_left_comm
        unfold tree_Arena_free.b22
        simp -dsimp [go_sem, z2, y2, hjN, cm, fm, wi]
        refine hC _ _ ⟨i + 1, by simp, by omega, hf2, ?_⟩ (by simp [iv]; omega)
        unfold AR
        rw [e2]
        exact s3
    · have hik : i = ks.length := by omega
      subst hik
      rw [List.take_length] at hf s2
      have hok : kidsOk l.length met ks := ⟨fun y hy => ⟨(hall y hy).1, (hall y hy).2.1⟩, hf⟩
      simp -dsimp [go_sem]
      refine hR _ _ ⟨by rw [decide_eq_true hok], ?_⟩
      rw [if_pos hok]
      exact hback _ _ x (s2.take 4)
end Go.Proofs.Ytkacbjhiobnbfaa

/-
  tree: Join.
-/
namespace Go.Px
open Go.RowKit
/-- A piece is laid into one that is made of several. -/
theorem St.snocIn {α : Type} {A : α → List Ch} {d : Ch} {G : Nat → Prop} {W w : World} {L : List Ch} {k j : Nat} (h : St G W w L) (hk : L[k]? = some (Ch.ex fun x => Ch.all (A x))) (hj : L[j]? = some d) (hjk : j ≠ k) :
    St G W w ((L.set j Ch.emp).set k (Ch.ex fun x => Ch.all (A x ++ [d]))) := by
  obtain ⟨hc, T, ht, hL⟩ := h
  obtain ⟨x, T', ht', hk'⟩ := hL k _ hk
  refine ⟨hc, fun i => if T i = j + 1 then k + 1 else T i, fun i hi => ?_, fun n c hn => ?_⟩
  · by_cases e : T i = j + 1
    · exact ht i (by omega)
    · dsimp only at hi; rw [if_neg e] at hi; exact ht i hi
  · rw [List.getElem?_set] at hn
    by_cases e1 : k = n
    · subst e1
      have hkl := (List.getElem?_eq_some_iff.1 hk).1
      rw [if_pos rfl, if_pos (by simpa using hkl)] at hn
      injection hn with hn
      subst hn
      refine ⟨x, fun i => if T i = j + 1 then (A x).length + 1 else T' i, fun i hi => ?_, fun m c hm => ?_⟩
      · by_cases e : T i = j + 1
        · exact ⟨by dsimp only; rw [if_pos e], (ht i (by omega)).2⟩
        · dsimp only at hi; rw [if_neg e] at hi
          exact ⟨by dsimp only; rw [if_neg e]; exact (ht' i hi).1, (ht' i hi).2⟩
      · by_cases hml : m < (A x).length
        · rw [List.getElem?_append_left hml] at hm
          refine c.keep (X := noB) (hk' m c hm) (Chg.refl _ _) (fun _ _ _ => id) fun i hi e => ?_
          have e' : T' i = m + 1 := e
          have := (ht' i (by omega)).1
          dsimp only; rw [if_neg (by omega)]; exact e
        · rw [List.getElem?_append_right (by omega)] at hm
          have hm0 : m = (A x).length := by
            have := (List.getElem?_eq_some_iff.1 hm).1
            simp at this; omega
          subst hm0
          simp at hm
          subst hm
          refine d.keep (X := noB) (hL j d hj) (Chg.refl _ _) (fun _ _ _ => id) fun i hi e => ?_
          dsimp only; rw [if_pos e]
    · rw [if_neg e1, List.getElem?_set] at hn
      by_cases e2 : j = n
      · subst e2
        have hjl := (List.getElem?_eq_some_iff.1 hj).1
        rw [if_pos rfl, if_pos hjl] at hn
        injection hn with hn
        subst hn; trivial
      · rw [if_neg e2] at hn
        refine c.keep (X := noB) (hL n c hn) (Chg.refl _ _) (fun _ _ _ => id) fun i hi e => ?_
        have e' : T i = n + 1 := e
        dsimp only; rw [if_neg (by omega)]; exact e
theorem set_back {α : Type} {L : List α} {k : Nat} (h : k < L.length) (a r e c : α) : (((L.set k a ++ [r]).set L.length e).set k c).take L.length = L.set k c := by
  have h1 : (L.set k a ++ [r]).set L.length e = L.set k a ++ [e] := by
    rw [List.set_append_right _ _ (by simp)]; simp
  rw [h1, List.set_append_left _ _ (by simpa using h), List.set_set]
  exact List.take_left' (by simp)
end Go.Px
namespace Go.Proofs.Ytkacbjhiobnbfaa
open Go.Px Go.Px.Scan Go.RowKit
set_option maxHeartbeats 1000000
set_option linter.unusedSimpArgs false
set_option linter.unusedVariables false
set_option maxRecDepth 100000
attribute [-go_sem] tree_Arena_Join.b5 tree_Arena_Join.b4_1 tree_Arena_Join.b4_2 tree_Arena_Join.b3 tree_Arena_Join.b3_1 tree_Arena_Join.b3_2
theorem bJoin (x y : Int) (A : Option Addr) (n c : Nat) (w : World) : (Instr.build 61 #[(0, .int .i64 x), (1, .int .i64 y), (3, .slice A n c)]).run Try.prog w = .ok (.agg #[.int .i64 x, .int .i64 y, .int .i64 0, .slice A n c]) w := by simp [go_sem]
attribute [go_sem ↓] bJoin

theorem Join_ct {G : Nat → Prop} {W w : World} {L : List Ch} {k b : Nat} {l : List Nd} {met : List Nat} {vk : Value} {ks : List Int} {sy pr : Int} (s : St G W w L) (hk : L[k]? = some (arC 81 b l met)) (hm : ∀ i ∈ met, i < l.length) (hb : (l.length + 1) * 48 ≤ maxBytes) (hkf : ks.length * 8 ≤ maxBytes)
    (hrd : ∀ w' c, St G W w' (L.set k c) → (rSlice rInt).at1 w' w'.heap.size vk ks) :
    Ct Try.prog tree_Arena_Join.id #[.pointer (some ⟨b, 0, none⟩), .int .i64 sy, .int .i64 pr, vk] w fun v w' => v = .tuple #[.int .i64 (joinS l met sy pr ks).1.1, .int .i64 (joinS l met sy pr ks).1.2] ∧ St G W w' (L.set k (arC 81 b (joinS l met sy pr ks).2.1 (joinS l met sy pr ks).2.2)) := by
  refine tree_Arena_Join.ct fun R hR => ?_
  have hkl := (List.getElem?_eq_some_iff.1 hk).1
  have hbad : ∀ w', (sy < 0 ∨ pr < 0 ∨ ¬ kidsOk l.length met ks) → St G W w' (L.set k (arC 81 b l met)) → tree_Arena_Join.b5 R (.pointer (some ⟨b, 0, none⟩)) (.int .i64 sy) (.int .i64 pr) vk (.bool true) w' := fun w' h hs => by
    unfold tree_Arena_Join.b5
    simp -dsimp [go_sem]
    unfold joinS at hR
    rw [if_pos h] at hR
    exact hR _ _ ⟨rfl, hs⟩
  have s0 : St G W w (L.set k (arC 81 b l met)) := by rw [set_same hk]; exact s
  unfold tree_Arena_Join.run
  simp -dsimp [go_sem]
  unfold tree_Arena_Join.b4_2
  simp -dsimp [go_sem]
  refine SPL_intro (fun p1 => ?_) (fun p1 => ?_) <;> simp at p1
  · exact hbad _ (Or.inl p1) s0
  simp -dsimp [go_sem]
  refine SPL_intro (fun p2 => ?_) (fun p2 => ?_) <;> simp at p2
  · exact hbad _ (Or.inr (Or.inl p2)) s0
  unfold tree_Arena_Join.b4_1
  refine CALL_of (free_ct s hk hm (by unfold maxBytes at hb; omega) hrd) ?_
  rintro _ w2 ⟨rfl, s2⟩
  by_cases hok : kidsOk l.length met ks
  · rw [decide_eq_true hok]
    rw [if_pos hok] at s2
    simp -dsimp [go_sem]
    unfold tree_Arena_Join.b5
    simp -dsimp [go_sem]
    unfold tree_Arena_Join.b3
    refine CALL_of (CloneI_ct (hrd _ _ s2) (Nat.le_refl _) hkf) ?_
    rintro v3 w3 ⟨hown, hc3⟩
    obtain ⟨ka, kc, rfl⟩ : ∃ a c, v3 = .slice a ks.length c := by
      rcases hown.2 with ⟨e1, e2⟩ | ⟨g, cap, cur, hv, _⟩
      · exact ⟨none, 0, by rw [e1, e2]⟩
      · exact ⟨_, _, hv⟩
    have s3 := s2.seq (St.ofRow hown hc3)
    rw [← cNdI_flat] at s3
    have s4 := s3.snocIn (k := k) (j := L.length) (by rw [List.getElem?_append_left (by simpa using hkl)]; simp [hkl]; rfl) (by rw [List.getElem?_append_right (by simp)]; simp; rfl) (by omega)
    have s5 := s4.take L.length
    rw [set_back hkl] at s5
    obtain ⟨F, x, si, hch, hback⟩ := s5.inEx (k := k) (by simp [hkl]; rfl)
    unfold tree_Arena_Join.b3_2
    simp -dsimp [go_sem]
    refine CALL_of (add_ct (G := F) (W := w3) (ks := ks) si (fun i hi => ?_) hb) ?_
    · rcases List.mem_append.1 hi with hi | hi
      · obtain ⟨y, hy, rfl⟩ := List.mem_map.1 hi
        have := hok.1 y hy; omega
      · exact hm i hi
    rintro _ w6 ⟨rfl, x', s6⟩
    have s7 := hback _ _ x' s6
    rw [List.set_set] at s7
    unfold tree_Arena_Join.b3_1
    simp -dsimp [go_sem]
    refine hR _ _ ?_
    unfold joinS
    rw [if_neg (by rintro (h | h | h) <;> first | omega | exact h hok)]
    exact ⟨rfl, s7⟩
  · rw [decide_eq_false hok]
    rw [if_neg hok] at s2
    simp -dsimp [go_sem]
    exact hbad _ (Or.inr (Or.inr hok)) s2
end Go.Proofs.Ytkacbjhiobnbfaa

/-
  tree: an arena's nodes.
-/
namespace Go.Px.Scan
open Go.Px Go.RowKit
theorem zip_set : ∀ (l : List Nd) (vs : List Value) (i : Nat) (u : Value), i < l.length → i < vs.length → ((l.zip vs).flatMap cNd).set (i * 4 + 3) u = (l.zip (vs.set i u)).flatMap cNd
  | [], vs, i, u, h, _ => by simp at h
  | x :: l, [], i, u, _, h => by simp at h
  | x :: l, v :: vs, 0, u, _, _ => by simp [cNd]
  | x :: l, v :: vs, i + 1, u, h1, h2 => by
    have := zip_set l vs i u (by simpa using h1) (by simpa using h2)
    simp only [List.zip_cons_cons, List.flatMap_cons, List.set_cons_succ]
    rw [← this, show (i + 1) * 4 + 3 = 4 + (i * 4 + 3) by omega]
    rw [List.set_append_right _ _ (by simp [cNd])]
    simp [cNd]
theorem zip_get {l : List Nd} {vs : List Value} {i : Nat} (h : i < l.length) (hv : i < vs.length) : ((l.zip vs).flatMap cNd)[i * 4 + 3]? = some vs[i] := by
  have h1 := flat_at (enc := cNd) (size := 4) (l := l.zip vs) (i := i) (x := (l[i], vs[i])) (fun _ _ => rfl) (by rw [List.getElem?_eq_getElem (by simp; omega)]; simp) (j := 3) (by omega)
  rw [h1]; rfl
theorem rows_rd {w : World} {F : Nat → Prop} {vs : List Value} {l : List Nd} (h : (rowsC 3 1 vs (l.map fun x => x.2.2.2.flatMap cNdI)).ok w F) (hl : ndIn l) {i : Nat} (hi : i < l.length) (hv : i < vs.length) : (rSlice rInt).at1 w w.heap.size vs[i] l[i].2.2.2 := by
  obtain ⟨q1, q2, q3, q4⟩ := hl _ (List.getElem_mem hi)
  obtain ⟨a', n', c', hv', hrow⟩ := h.2 i vs[i] _ (List.getElem?_eq_getElem hv) (by rw [List.getElem?_map, List.getElem?_eq_getElem hi]; rfl)
  have hn' : n' = l[i].2.2.2.length := by
    have := (row_size hrow).1
    dsimp only at this
    rw [cNdI_flat, List.length_map] at this; omega
  subst hn'
  rw [hv']
  exact row_reads (r := rInt) hrow (fun _ _ => rfl) (by decide) rfl rfl (fun j x y hx hy => by
    rw [hx] at hy; injection hy with hy; subst hy
    exact ⟨rfl, q4 _ (List.mem_of_getElem? hx)⟩) (Nat.le_refl _)
end Go.Px.Scan
namespace Go.Proofs.Ytkacbjhiobnbfaa
open Go.Px Go.Px.Scan Go.RowKit
set_option maxHeartbeats 1000000
set_option linter.unusedSimpArgs false
set_option linter.unusedVariables false
set_option maxRecDepth 100000
attribute [-go_sem] Builtin.append_ tree_Arena_Nodes.b4 tree_Arena_Nodes.b7_1 tree_Arena_Nodes.b7_2 tree_Arena_Nodes.b1_1

theorem CloneN_ct {w : World} {F : Nat → Prop} {a : Option Addr} {n c : Nat} {xs : List Value} (h : (rowC 61 4 a n c xs).ok w F) (hn : n * 48 ≤ maxBytes) (h1 : ∀ u ∈ xs, u.oneCell' = true) :
    Ct Try.prog slices_Clone_api_Node_api_Node.id #[.slice a n c] w fun v' w' => ∃ a c, v' = .slice a n c ∧ St noB w w' [rowC 61 4 a n c xs] := by
  refine slices_Clone_api_Node_api_Node.ct fun R hR => ?_
  have hs := row_size h
  unfold slices_Clone_api_Node_api_Node.run
  simp -dsimp [go_sem]
  rw [slice_nil_eq 49 Try.underlying49]
  cases a with
  | none =>
    have hz : n = 0 := by
      rcases Nat.eq_zero_or_pos xs.length with h0 | h0
      · omega
      · obtain ⟨g, e, _⟩ := row_at h h0
        cases e
    subst hz
    have hx : xs = [] := List.eq_nil_of_length_eq_zero (by omega)
    subst hx
    simp -dsimp [go_sem]
    exact hR _ _ ⟨none, 0, rfl, (St.refl noB w).nilRow 61 4⟩
  | some p =>
    simp -dsimp [go_sem]
    have h2 := (St.refl noB w).lit 61 4 0 #[] (by simp) (by simp)
    have hc := h2.chg
    generalize hw1 : w.alloc (.cells #[] 61) = w1 at h2 hc ⊢
    refine h2.appendN 0 rfl uNds iNd rfl (by omega) (m := n) (news := xs) hs.1 (fun j u hj => ?_) h1 (by omega) (by omega) ?_
    · have hjl := (List.getElem?_eq_some_iff.1 hj).1
      obtain ⟨g, e, hcell, _, _, hg⟩ := row_at h hjl
      injection e with e; subst e
      rw [Addr.add_lit, Nat.zero_add]
      have := (hc.cell (p := ⟨g, j, none⟩) hg id).trans hcell
      rw [this, (List.getElem?_eq_some_iff.1 hj).2]
    · intro a' cap w' h3 _
      rw [Nat.zero_add] at h3 ⊢
      exact hR _ _ ⟨a', cap, rfl, h3⟩

theorem oneNd {l : List Nd} {vs : List Value} (h : ∀ v ∈ vs, v.oneCell' = true) : ∀ u ∈ (l.zip vs).flatMap cNd, u.oneCell' = true := by
  intro u hu
  obtain ⟨p, hp, hu⟩ := List.mem_flatMap.1 hu
  have hv := h p.2 (List.of_mem_zip hp).2
  simp [cNd] at hu
  rcases hu with rfl | rfl | rfl | rfl <;> first | rfl | exact hv
theorem Nodes_ct {G : Nat → Prop} {W w : World} {L : List Ch} {k b : Nat} {l : List Nd} {met : List Nat} (s : St G W w L) (hk : L[k]? = some (arC 81 b l met)) (hb : l.length * 48 ≤ maxBytes) (hkd : ∀ x ∈ l, x.2.2.2.length * 8 ≤ maxBytes) (hin : ndIn l) :
    Ct Try.prog tree_Arena_Nodes.id #[.pointer (some ⟨b, 0, none⟩)] w fun v w' => ∃ a c us, v = .slice a l.length c ∧ St noB w w' (ndC a c us l) := by
  refine tree_Arena_Nodes.ct fun R hR => ?_
  obtain ⟨F, ⟨an, cn, at', ct, vs⟩, si, hch, hback⟩ := s.inEx hk
  have y0 := si.box 0 rfl
  simp [boxAt] at y0
  obtain ⟨F1, o1, _⟩ := si.get (k := 1) rfl
  obtain ⟨F3, o3, _⟩ := si.get (k := 3) rfl
  have hvs : vs.length = l.length := by have := o3.1; simpa using this
  have hvo : ∀ v ∈ vs, v.oneCell' = true := by
    intro v hv
    obtain ⟨i, hi, rfl⟩ := List.getElem_of_mem hv
    obtain ⟨_, _, _, e, _⟩ := o3.2 i vs[i] ((l.map fun x => x.2.2.2.flatMap cNdI)[i]'(by simp; omega)) (List.getElem?_eq_getElem hi) (List.getElem?_eq_getElem (by simp; omega))
    rw [e]; rfl
  unfold tree_Arena_Nodes.run
  simp -dsimp [go_sem]
  unfold tree_Arena_Nodes.b1_1
  simp -dsimp [go_sem, y0]
  refine CALL_of (CloneN_ct o1 hb (oneNd hvo)) ?_
  rintro _ w2 ⟨a, c, rfl, s2⟩
  unfold tree_Arena_Nodes.b4
  simp -dsimp [go_sem]
  have hl3 : l.length ≤ 3000000000000 := by unfold maxBytes at hb; omega
  refine tree_Arena_Nodes.l6_intro _ _ _ _ _ (fun y w' => ∃ (i : Nat) (us : List Value), y = .int .i64 i ∧ i ≤ l.length ∧ us.length = i ∧ St noB w w' [rowC 61 4 a l.length c ((l.zip (us ++ vs.drop i)).flatMap cNd), rowsC 3 1 us ((l.take i).map fun x => x.2.2.2.flatMap cNdI)]) (fun y _ => l.length - iv y) ⟨0, [], rfl, by omega, rfl, s2.push (c := rowsC 3 1 [] []) ⟨rfl, fun i v xs h => by simp at h⟩⟩ ?_
  rintro _ w3 ⟨i, us, rfl, hi, hus, s3⟩ C hC
  simp -dsimp [go_sem]
  refine SPL_intro (fun p1 => ?_) (fun p1 => ?_) <;> simp at p1
  · have wi : IntKind.i64.wrap ((i : Int) + 1) = (i : Int) + 1 := IntWalk.i64_in _ (by omega)
    have hiv : i < vs.length := by omega
    have hdl : (us ++ vs.drop i).length = l.length := by simp; omega
    have hget : (us ++ vs.drop i)[i]'(by omega) = vs[i] := by
      rw [List.getElem_append_right (by omega)]; simp [hus]
    have hxl : ((l.zip (us ++ vs.drop i)).flatMap cNd).length = l.length * 4 := by rw [nd_row, hdl, Nat.min_self]
    obtain ⟨g, ea, cx, fx⟩ := s3.rowAt 0 rfl (j := i * 4 + 3) (by rw [hxl]; omega)
    have hz := zip_get (l := l) (vs := us ++ vs.drop i) p1 (by omega)
    rw [List.getElem?_eq_getElem (by rw [hxl]; omega)] at hz
    injection hz with hz
    rw [hz, hget] at cx
    subst ea
    have hrd : (rSlice rInt).at1 w3 w.heap.size vs[i] l[i].2.2.2 := Rep.below (rows_rd o3 hin p1 hiv) (s3.chg.below (Nat.le_refl _) fun _ _ => id)
    have hk8 := hkd _ (List.getElem_mem p1)
    obtain ⟨v, hv⟩ : ∃ v, vs[i] = v := ⟨_, rfl⟩
    rw [hv] at hrd cx
    have htk : l.take (i + 1) = l.take i ++ [l[i]] := List.take_succ_eq_append_getElem p1
    unfold tree_Arena_Nodes.b7_2
    simp -dsimp [go_sem, p1, cx]
    refine CALL_of (CloneI_ct hrd s3.chg.size hk8) ?_
    rintro v4 w4 ⟨hown, hc4⟩
    obtain ⟨ka, kc, rfl⟩ : ∃ a c, v4 = .slice a l[i].2.2.2.length c := by
      rcases hown.2 with ⟨e1, e2⟩ | ⟨g, cap, cur, hv, _⟩
      · exact ⟨none, 0, by rw [e1, e2]⟩
      · exact ⟨_, _, hv⟩
    have s4 := s3.seq (St.ofRow hown hc4)
    rw [← cNdI_flat] at s4
    have cx4 := (hc4.cell (p := ⟨g, i * 4 + 3, none⟩) (World.block_lt_of_cell? w3 _ cx) id).trans cx
    have fx4 := (hc4.frozen (p := ⟨g, i * 4 + 3, none⟩) (World.block_lt_of_cell? w3 _ cx) id).trans fx
    have s5 := s4.setRow 0 rfl (i * 4 + 3) (.slice ka l[i].2.2.2.length kc)
    rw [zip_set _ _ _ _ p1 (by omega)] at s5
    have eset : (us ++ vs.drop i).set i (.slice ka l[i].2.2.2.length kc) = (us ++ [.slice ka l[i].2.2.2.length kc]) ++ vs.drop (i + 1) := by
      rw [List.set_append_right _ _ (by omega), hus, Nat.sub_self, List.drop_eq_getElem_cons hiv, List.append_assoc]
      rfl
    rw [eset] at s5
    have s6 := (s5.merge (j := 2) (k := 1) rfl rfl (by omega) (e := rowsC 3 1 (us ++ [.slice ka l[i].2.2.2.length kc]) (((l.take i).map fun x => x.2.2.2.flatMap cNdI) ++ [l[i].2.2.2.flatMap cNdI])) fun F F' h1 h2 => rowsC_snoc (size := 1) h1 h2).take 2
    unfold tree_Arena_Nodes.b7_1
    simp -dsimp [go_sem, p1, cx4, fx4, wi]
    refine hC _ _ ⟨i + 1, us ++ [.slice ka l[i].2.2.2.length kc], by simp, by omega, by simp [hus], ?_⟩ (by simp [iv]; omega)
    have e3 : ((l.take (i + 1)).map fun x => x.2.2.2.flatMap cNdI) = ((l.take i).map fun x => x.2.2.2.flatMap cNdI) ++ [l[i].2.2.2.flatMap cNdI] := by rw [htk, List.map_append]; rfl
    rw [e3]
    exact s6
  · have hil : i = l.length := by omega
    subst hil
    simp -dsimp [go_sem]
    refine hR _ _ ⟨a, c, us, rfl, ?_⟩
    have e1 : vs.drop l.length = [] := List.drop_eq_nil_of_le (by omega)
    rw [e1, List.append_nil, List.take_length] at s3
    exact s3
end Go.Proofs.Ytkacbjhiobnbfaa

/-
  What an arena is, step by step.
-/
namespace Go.Px.Scan
open Go.Px Go.RowKit
theorem arC_new {T b : Nat} {w : World} {F : Nat → Prop} (h : (boxC b T [.slice none 0 0, .slice none 0 0]).ok w F) : (arC T b [] []).ok w F := by
  obtain ⟨Tt, hT, hk⟩ := (((St.one h).nilRow 61 4).nilRow 4 1).push (c := rowsC 3 1 [] []) ⟨rfl, fun i v xs h => by simp at h⟩ |>.all
  exact ⟨(none, 0, none, 0, []), Tt, fun i hi => ⟨(hT i hi).1 (hT i hi).2, (hT i hi).2⟩, hk⟩
end Go.Px.Scan
namespace Go.Px.Scan
open Go.Px Go.RowKit
def stepS (o : Nd) (s : List Nd × List Nat) : (Int × Int) × (List Nd × List Nat) := if o.1.tmod 2 = 0 then leafS s.1 s.2 o.2.1 o.2.2.1 else joinS s.1 s.2 o.2.1 o.2.2.1 o.2.2.2
structure InvA (l : List Nd) (met : List Nat) (i : Nat) : Prop where
  met : ∀ m ∈ met, m < l.length
  len : l.length ≤ i
  nums : ndIn l
  kids : ∀ x ∈ l, x.2.2.2.length * 8 ≤ maxBytes
theorem InvA.leaf {l : List Nd} {met : List Nat} {i : Nat} (h : InvA l met i) {sy tk : Int} (h1 : inI64 sy) (h2 : inI64 tk) : InvA (leafS l met sy tk).2.1 (leafS l met sy tk).2.2 (i + 1) := by
  unfold leafS
  split
  · exact ⟨h.met, by have := h.len; simp; omega, h.nums, h.kids⟩
  · refine ⟨fun m hm => by have := h.met m hm; simp; omega, by have := h.len; simp; omega, fun x hx => ?_, fun x hx => ?_⟩
    · rcases List.mem_append.1 hx with hx | hx
      · exact h.nums x hx
      · rw [List.mem_singleton] at hx; subst hx; exact ⟨h1, (by unfold inI64; decide : inI64 (-1)), h2, by simp⟩
    · rcases List.mem_append.1 hx with hx | hx
      · exact h.kids x hx
      · rw [List.mem_singleton] at hx; subst hx; simp
theorem InvA.join {l : List Nd} {met : List Nat} {i : Nat} (h : InvA l met i) {sy pr : Int} {ks : List Int} (h1 : inI64 sy) (h2 : inI64 pr) (h3 : ∀ k ∈ ks, inI64 k) (h4 : ks.length * 8 ≤ maxBytes) : InvA (joinS l met sy pr ks).2.1 (joinS l met sy pr ks).2.2 (i + 1) := by
  unfold joinS
  split
  · exact ⟨h.met, by have := h.len; simp; omega, h.nums, h.kids⟩
  · rename_i hno
    have hok : kidsOk l.length met ks := by
      by_cases e : kidsOk l.length met ks
      · exact e
      · exact absurd (Or.inr (Or.inr e)) hno
    refine ⟨fun m hm => ?_, by have := h.len; simp; omega, fun x hx => ?_, fun x hx => ?_⟩
    · have : m < l.length := by
        rcases List.mem_append.1 hm with hm | hm
        · obtain ⟨y, hy, rfl⟩ := List.mem_map.1 hm
          have := hok.1 y hy; omega
        · exact h.met m hm
      simp; omega
    · rcases List.mem_append.1 hx with hx | hx
      · exact h.nums x hx
      · rw [List.mem_singleton] at hx; subst hx; exact ⟨h1, h2, (by unfold inI64; decide : inI64 0), h3⟩
    · rcases List.mem_append.1 hx with hx | hx
      · exact h.kids x hx
      · rw [List.mem_singleton] at hx; subst hx; exact h4
theorem arC_read {G : Nat → Prop} {W w : World} {L : List Ch} {k T b : Nat} {l : List Nd} {met : List Nat} (s : St G W w L) (hk : L[k]? = some (arC T b l met)) (hin : ndIn l) : ∃ a c, w.cell? ⟨b, 0, none⟩ = some (.slice a l.length c) ∧ (rSlice rNd).at1 w w.heap.size (.slice a l.length c) l ∧ b < w.heap.size := by
  obtain ⟨F, ⟨an, cn, at', ct, vs⟩, si, _⟩ := s.inEx hk
  have y0 := si.box 0 rfl
  simp [boxAt] at y0
  obtain ⟨F1, h1, _⟩ := si.get (k := 1) rfl
  obtain ⟨F3, h3, _⟩ := si.get (k := 3) rfl
  exact ⟨an, cn, y0.1.1, ndC_rd h1 h3 hin (Nat.le_refl _), y0.2.2⟩
end Go.Px.Scan

