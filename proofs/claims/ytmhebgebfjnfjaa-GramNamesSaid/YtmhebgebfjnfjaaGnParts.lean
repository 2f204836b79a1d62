import Derived.Test.YtmhebgebfjnfjaaGnSh
import Derived.Test.YtmhebgebfjnfjaaPxData
namespace Go.Proofs.Ytmhebgebfjnfjaa
open Go.Px Go.RowKit
set_option maxHeartbeats 400000



theorem law02_num_ct (x : Value) (w : World) : Ct Try.prog law02_num.id #[x] w fun v w' => v = x ∧ w = w' := by
  refine law02_num.ct fun R hR => ?_
  unfold law02_num.run law02_num.b1
  exact hR _ _ ⟨rfl, rfl⟩

theorem gram_New_ct (w : World) : Ct Try.prog gram_New.id #[] w fun v w' => v = .pointer (some ⟨w.heap.size, 0, none⟩) ∧ w.alloc (.cells #[.slice none 0 0, .map none, .slice none 0 0, .map none, .slice none 0 0, .slice none 0 0, .slice none 0 0, .int .i64 0] 48) = w' := by
  refine gram_New.ct fun R hR => ?_
  unfold gram_New.run gram_New.b1
  simp [go_sem]
  exact hR _ _ ⟨rfl, rfl⟩

theorem isTerm_empty (w : World) : Ct Try.prog gram_isTerm.id #[.string { data := #[] }] w fun v w' => v = .bool false ∧ w = w' := by
  refine gram_isTerm.ct fun R hR => ?_
  unfold gram_isTerm.run gram_isTerm.b1
  simp [go_sem]
  exact hR _ _ ⟨rfl, rfl⟩

theorem Term_empty (b : Addr) (w : World) : Ct Try.prog gram_Builder_Term.id #[.pointer (some b), .string { data := #[] }] w fun v w' => v = .tuple #[.int .i64 0, .int .i64 1] ∧ w = w' := by
  refine gram_Builder_Term.ct fun R hR => ?_
  unfold gram_Builder_Term.run gram_Builder_Term.b1 gram_Builder_Term.b4
  simp [go_sem]
  refine CALL_of (isTerm_empty w) ?_
  rintro _ _ ⟨rfl, rfl⟩
  unfold gram_Builder_Term.b5
  simp [go_sem]
  exact hR _ _ ⟨rfl, rfl⟩

theorem Non_nil (s : Value) (w : World) : Ct Try.prog gram_Builder_Non.id #[.pointer none, s] w fun v w' => v = .tuple #[.int .i64 0, .int .i64 1] ∧ w = w' := by
  refine gram_Builder_Non.ct fun R hR => ?_
  unfold gram_Builder_Non.run gram_Builder_Non.b1 gram_Builder_Non.b4
  simp [go_sem]
  unfold gram_Builder_Non.b5
  simp [go_sem]
  exact hR _ _ ⟨rfl, rfl⟩

theorem size_ct (b o n c : Nat) (A) (w : World) (h : w.cell? ⟨b, o, none⟩ = some (.slice A n c)) : Ct Try.prog gram_names_size.id #[.pointer (some ⟨b, o, none⟩)] w fun v w' => v = .int .i64 n ∧ w = w' := by
  refine gram_names_size.ct fun R hR => ?_
  unfold gram_names_size.run gram_names_size.b1
  simp [go_sem, h]
  exact hR _ _ ⟨rfl, rfl⟩

theorem isNon_empty (b : Nat) (w : World) (h : w.cell? ⟨b, 2, none⟩ = some (.slice none 0 0)) : Ct Try.prog gram_Builder_isNonHandle.id #[.pointer (some ⟨b, 0, none⟩), .int .i64 (-1)] w fun v w' => v = .bool false ∧ w = w' := by
  refine gram_Builder_isNonHandle.ct fun R hR => ?_
  unfold gram_Builder_isNonHandle.run gram_Builder_isNonHandle.b1
  simp [go_sem]
  refine CALL_of (size_ct b 2 0 0 none w h) ?_
  rintro _ _ ⟨rfl, rfl⟩
  simp [go_sem]
  exact hR _ _ ⟨rfl, rfl⟩

theorem Start_empty (b : Nat) (w : World) (h : w.cell? ⟨b, 2, none⟩ = some (.slice none 0 0)) : Ct Try.prog gram_Builder_Start.id #[.pointer (some ⟨b, 0, none⟩), .int .i64 (-1)] w fun v w' => v = .int .i64 1 ∧ w = w' := by
  refine gram_Builder_Start.ct fun R hR => ?_
  unfold gram_Builder_Start.run gram_Builder_Start.b1 gram_Builder_Start.b4
  simp [go_sem]
  refine CALL_of (isNon_empty b w h) ?_
  rintro _ _ ⟨rfl, rfl⟩
  unfold gram_Builder_Start.b5
  simp [go_sem]
  exact hR _ _ ⟨rfl, rfl⟩

theorem GramNames_ct (w : World) : Ct Try.prog law02_GramNames.id #[] w fun v w' => v = .bool true ∧ Below w.heap.size w w' := by
  refine law02_GramNames.ct fun R hR => ?_
  unfold law02_GramNames.run law02_GramNames.b1
  refine CALL_of (gram_New_ct w) ?_
  rintro _ w1 ⟨rfl, hw1⟩; have hw1 := hw1.symm
  refine CALL_of (Term_empty _ w1) ?_
  rintro _ _ ⟨rfl, rfl⟩
  simp [go_sem]
  refine CALL_of (gram_New_ct w1) ?_
  rintro _ w2 ⟨rfl, hw2⟩; have hw2 := hw2.symm
  refine CALL_of (Start_empty _ w2 (by rw [hw2]; simp [go_sem])) ?_
  rintro _ _ ⟨rfl, rfl⟩
  refine CALL_of (Non_nil _ w2) ?_
  rintro _ _ ⟨rfl, rfl⟩
  have hb : Below w.heap.size w w2 := by rw [hw2, hw1]; exact ((Below.refl _ _).alloc (Nat.le_refl _) _).alloc (by simp) _
  clear hw1 hw2
  iterate 8
    simp [go_sem]
    refine CALL_of (law02_num_ct _ w2) ?_
    rintro _ _ ⟨rfl, rfl⟩
  simp [go_sem]
  unfold law02_GramNames.b2
  iterate 6
    simp [go_sem]
    refine CALL_of (law02_num_ct _ w2) ?_
    rintro _ _ ⟨rfl, rfl⟩
  simp [go_sem]
  unfold law02_GramNames.b3
  iterate 3
    simp [go_sem]
    refine CALL_of (law02_num_ct _ w2) ?_
    rintro _ _ ⟨rfl, rfl⟩
  simp [go_sem]
  exact hR _ _ ⟨rfl, hb⟩
end Go.Proofs.Ytmhebgebfjnfjaa
