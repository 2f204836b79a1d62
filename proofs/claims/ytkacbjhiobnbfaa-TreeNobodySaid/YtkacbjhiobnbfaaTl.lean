/-
  TreeNobody.
-/
import Derived.Test.YtkacbjhiobnbfaaTk
import Derived.Test.YtkacbjhiobnbfaaTg
namespace Go.Px.Scan
open Go.Px Go.RowKit
theorem arC_new {T b : Nat} {w : World} {F : Nat → Prop} (h : (boxC b T [.slice none 0 0, .slice none 0 0]).ok w F) : (arC T b [] []).ok w F := by
  obtain ⟨Tt, hT, hk⟩ := (((St.one h).nilRow 61 4).nilRow 4 1).push (c := rowsC 3 1 [] []) ⟨rfl, fun i v xs h => by simp at h⟩ |>.all
  exact ⟨(none, 0, none, 0, []), Tt, fun i hi => ⟨(hT i hi).1 (hT i hi).2, (hT i hi).2⟩, hk⟩
end Go.Px.Scan
namespace Go.Proofs.Ytkacbjhiobnbfaa
open Go.Px Go.Px.Scan Go.RowKit
set_option maxHeartbeats 1000000
set_option linter.unusedSimpArgs false
set_option linter.unusedVariables false
set_option maxRecDepth 100000

attribute [-go_sem] law20_pick.b2
theorem pick_ct (w : World) {c n : Int} (hc : inI64 c) (h0 : 0 < n) (hn : n ≤ 1000) : Ct Try.prog law20_pick.id #[.int .i64 c, .int .i64 n] w fun v w' => (∃ r : Int, v = .int .i64 r ∧ 0 ≤ r ∧ r < n) ∧ w = w' := by
  refine law20_pick.ct fun R hR => ?_
  have key : ∀ c : Int, 0 ≤ c → c ≤ 9223372036854775807 → law20_pick.b2 R (.int .i64 c) (.int .i64 n) w := by
    intro c h1 h2
    unfold law20_pick.b2
    have hn0 : ¬ n = 0 := by omega
    simp -dsimp [go_sem, hn0]
    exact hR _ _ ⟨⟨_, rfl, Int.tmod_nonneg _ h1, Int.tmod_lt_of_pos _ h0⟩, rfl⟩
  unfold inI64 at hc
  unfold law20_pick.run
  simp -dsimp [go_sem]
  refine SPL_intro (fun p => ?_) (fun p => ?_) <;> simp at p
  · have w1 : IntKind.i64.wrap (c + 1) = c + 1 := IntWalk.i64_in _ (by omega)
    have w2 : IntKind.i64.wrap (-(c + 1)) = -(c + 1) := IntWalk.i64_in _ (by omega)
    simp -dsimp [go_sem, w1, w2]
    exact key (-(c + 1)) (by omega) (by omega)
  · exact key c (by omega) (by omega)

theorem LeafNil_ct (w : World) (sy tk : Int) : Ct Try.prog tree_Arena_Leaf.id #[.pointer none, .int .i64 sy, .int .i64 tk] w fun v w' => v = .tuple #[.int .i64 0, .int .i64 1] ∧ w = w' := by
  refine tree_Arena_Leaf.ct fun R hR => ?_
  unfold tree_Arena_Leaf.run
  simp -dsimp [go_sem]
  exact hR _ _ ⟨rfl, rfl⟩
theorem JoinNil_ct (w : World) (sy pr : Int) (v : Value) : Ct Try.prog tree_Arena_Join.id #[.pointer none, .int .i64 sy, .int .i64 pr, v] w fun v w' => v = .tuple #[.int .i64 0, .int .i64 1] ∧ w = w' := by
  refine tree_Arena_Join.ct fun R hR => ?_
  unfold tree_Arena_Join.run
  simp -dsimp [go_sem]
  exact hR _ _ ⟨rfl, rfl⟩
theorem LenNil_ct (w : World) : Ct Try.prog tree_Arena_Len.id #[.pointer none] w fun v w' => v = .int .i64 0 ∧ w = w' := by
  refine tree_Arena_Len.ct fun R hR => ?_
  unfold tree_Arena_Len.run
  simp -dsimp [go_sem]
  exact hR _ _ ⟨rfl, rfl⟩
theorem NodesNil_ct (w : World) : Ct Try.prog tree_Arena_Nodes.id #[.pointer none] w fun v w' => v = .slice none 0 0 ∧ w = w' := by
  refine tree_Arena_Nodes.ct fun R hR => ?_
  unfold tree_Arena_Nodes.run
  simp -dsimp [go_sem]
  exact hR _ _ ⟨rfl, rfl⟩
attribute [-go_sem] Builtin.append_ law20_TreeNobody.b1_10 law20_TreeNobody.b1_9 law20_TreeNobody.b1_8 law20_TreeNobody.b1_7 law20_TreeNobody.b1_6 law20_TreeNobody.b1_5 law20_TreeNobody.b1_4 law20_TreeNobody.b1_3 law20_TreeNobody.b1_2 law20_TreeNobody.b1_1
theorem TreeNobody_ct {w : World} {B : Nat} {vk : Value} {ks : List Int} {sy : Int} (h : (rSlice rInt).at1 w B vk ks) (hB : B ≤ w.heap.size) (hkf : ks.length * 8 ≤ maxBytes) (hs : inI64 sy) :
    Ct Try.prog law20_TreeNobody.id #[.int .i64 sy, vk] w fun v w' => v = .bool true ∧ Chg noB w w' := by
  refine law20_TreeNobody.ct fun R hR => ?_
  obtain ⟨Ak, ck, rfl, hk1, hk2, _⟩ := slice_form h
  unfold law20_TreeNobody.run
  simp -dsimp [go_sem]
  refine CALL_of (LeafNil_ct w sy 0) ?_
  rintro _ _ ⟨rfl, rfl⟩
  unfold law20_TreeNobody.b1_10
  have s1 := (St.refl noB w).lit 3 1 0 #[] (by simp) (by simp)
  have hrd : (rSlice rInt).at1 (w.alloc (.cells #[] 3)) B (.slice Ak ks.length ck) ks := Rep.below h (s1.chg.below hB fun _ _ => id)
  simp -dsimp [go_sem]
  generalize w.alloc (.cells #[] 3) = w1 at s1 hrd ⊢
  refine s1.appendRd (r := rInt) (enc := cNdI) 0 rfl uInts iInt rfl (by decide) hrd (fun h _ => h.1) (fun x _ u hu => by simp [cNdI] at hu; subst hu; rfl) (fun _ _ => rfl) (by unfold maxLen; unfold maxBytes at hkf; omega) (by omega) ?_
  intro ka kc w2 s2
  simp -dsimp [go_sem]
  refine CALL_of (JoinNil_ct w2 sy 0 _) ?_
  rintro _ _ ⟨rfl, rfl⟩
  unfold law20_TreeNobody.b1_9
  have s3 := (St.refl noB w2).alloc #[.slice none 0 0, .slice none 0 0] 81
  have s3 : St noB w2 (w2.alloc (.cells #[.slice none 0 0, .slice none 0 0] 81)) [arC 81 w2.heap.size [] []] := s3.turn (k := 0) rfl fun F ho => arC_new ho
  simp -dsimp [go_sem]
  generalize w2.alloc (.cells #[.slice none 0 0, .slice none 0 0] 81) = w3 at s3 ⊢
  generalize w2.heap.size = b at s3 ⊢
  refine CALL_of (pick_ct w3 hs (n := 99) (by omega) (by omega)) ?_
  rintro _ _ ⟨⟨r1, rfl, ha1, ha2⟩, rfl⟩
  unfold law20_TreeNobody.b1_8
  refine CALL_of (pick_ct w3 hs (n := 7) (by omega) (by omega)) ?_
  rintro _ _ ⟨⟨r2, rfl, hb1, hb2⟩, rfl⟩
  refine CALL_of (Leaf_ct s3 (k := 0) rfl (by simp) (by simp [maxBytes])) ?_
  rintro _ w4 ⟨rfl, s4⟩
  have e : leafS [] [] r1 r2 = ((0, 0), ([(r1, -1, r2, [])], [])) := by unfold leafS; rw [if_neg (by omega)]; rfl
  rw [e] at s4 ⊢
  unfold law20_TreeNobody.b1_7
  simp -dsimp [go_sem]
  unfold law20_TreeNobody.b1_6
  simp -dsimp [go_sem]
  unfold law20_TreeNobody.b1_5
  simp -dsimp [go_sem]
  refine CALL_of (LenNil_ct w4) ?_
  rintro _ _ ⟨rfl, rfl⟩
  unfold law20_TreeNobody.b1_4
  simp -dsimp [go_sem]
  refine CALL_of (NodesNil_ct w4) ?_
  rintro _ _ ⟨rfl, rfl⟩
  unfold law20_TreeNobody.b1_3
  simp -dsimp [go_sem]
  unfold law20_TreeNobody.b1_2
  simp -dsimp [go_sem]
  refine CALL_of (ArLen_ct s4 (k := 0) rfl) ?_
  rintro _ _ ⟨rfl, rfl⟩
  unfold law20_TreeNobody.b1_1
  simp -dsimp [go_sem]
  refine CALL_of (awake20_ct w4) ?_
  rintro _ w5 ⟨rfl, hc5⟩
  exact hR _ _ ⟨rfl, (s2.chg.trans s4.chg).trans hc5⟩
end Go.Proofs.Ytkacbjhiobnbfaa

