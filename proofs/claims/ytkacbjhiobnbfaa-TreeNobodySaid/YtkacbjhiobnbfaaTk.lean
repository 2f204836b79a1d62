/-
  The document's arena: Leaf, Join.
-/
import Derived.Test.YtkacbjhiobnbfaaTj
namespace Go.Proofs.Ytkacbjhiobnbfaa
open Go.Px Go.Px.Scan Go.RowKit
set_option maxHeartbeats 1000000
set_option linter.unusedSimpArgs false
set_option linter.unusedVariables false
set_option maxRecDepth 100000
attribute [-go_sem] Builtin.append_ ref20_Arena_Leaf.b5 ref20_Arena_Leaf.b3 ref20_Arena_Join.b24 ref20_Arena_Join.b5 ref20_Arena_Join.b4 ref20_Arena_Join.b14 ref20_Arena_Join.b14_1 ref20_Arena_Join.b14_2 ref20_Arena_Join.b15 ref20_Arena_Join.b17 ref20_Arena_Join.b18 ref20_Arena_Join.b22 ref20_Arena_Join.b21_1

theorem refLeaf_ct {G : Nat → Prop} {W w : World} {L : List Ch} {k b : Nat} {l : List Nd} {met : List Nat} {sy tk : Int} (s : St G W w L) (hk : L[k]? = some (arC 70 b l met)) (hm : ∀ i ∈ met, i < l.length) (hb : (l.length + 1) * 48 ≤ maxBytes) :
    Ct Try.prog ref20_Arena_Leaf.id #[.pointer (some ⟨b, 0, none⟩), .int .i64 sy, .int .i64 tk] w fun v w' => v = .tuple #[.int .i64 (leafS l met sy tk).1.1, .int .i64 (leafS l met sy tk).1.2] ∧ St G W w' (L.set k (arC 70 b (leafS l met sy tk).2.1 (leafS l met sy tk).2.2)) := by
  refine ref20_Arena_Leaf.ct fun R hR => ?_
  have hbad : ∀ {x}, x = true → sy < 0 ∨ tk < 0 → ref20_Arena_Leaf.b5 R (.pointer (some ⟨b, 0, none⟩)) (.int .i64 sy) (.int .i64 tk) (.bool x) w := fun {x} hx h => by
    subst hx
    unfold ref20_Arena_Leaf.b5
    simp -dsimp [go_sem]
    unfold leafS at hR
    rw [if_pos h] at hR
    exact hR _ _ ⟨rfl, by rw [set_same hk]; exact s⟩
  unfold ref20_Arena_Leaf.run
  simp -dsimp [go_sem]
  refine SPL_intro (fun p1 => ?_) (fun p1 => ?_) <;> simp at p1
  · exact hbad rfl (Or.inl p1)
  simp -dsimp [go_sem]
  cases p2 : decide (tk < 0) with
  | true => exact hbad rfl (Or.inr (by simpa using p2))
  | false =>
    have p2 : ¬ tk < 0 := by simpa using p2
    obtain ⟨F, ⟨an, cn, at', ct, vs⟩, si, hch, hback⟩ := s.inEx hk
    have hvs : vs.length = l.length := by
      obtain ⟨F, ho, _⟩ := si.get (k := 3) rfl
      have := ho.1; simpa using this
    have hl : l.length ≤ 3000000000000 := by unfold maxBytes at hb; omega
    have y0 := si.box 0 rfl
    simp [boxAt] at y0
    unfold ref20_Arena_Leaf.b5
    simp -dsimp [go_sem]
    unfold ref20_Arena_Leaf.b3
    have s1 := si.nilRow 3 1
    simp -dsimp [go_sem, y0]
    refine s1.append1 1 rfl uNds iNd rfl (by omega) (news := [.int .i64 sy, .int .i64 (-1), .int .i64 tk, .slice none 0 0]) rfl (by simp [Value.oneCell']) (by unfold maxLen; omega) (by omega) fun g3 c3 w3 s3 => ?_
    have y3 := s3.box 0 rfl
    simp [boxAt] at y3
    have s4 := s3.set 0 rfl 0 (.slice (some ⟨g3, 0, none⟩) (l.length + 1) c3)
    have y4 := s4.box 0 rfl
    simp [boxAt] at y4
    simp -dsimp [go_sem, y3, y4]
    have hsz4 : (w3.setCell ⟨b, 0, none⟩ (.slice (some ⟨g3, 0, none⟩) (l.length + 1) c3)).heap.size = w3.heap.size := by simp
    rw [← hsz4]
    clear hsz4
    generalize w3.setCell ⟨b, 0, none⟩ (.slice (some ⟨g3, 0, none⟩) (l.length + 1) c3) = w4 at s4 y4 ⊢
    refine s4.append1 2 rfl uFlags iBool' rfl (by omega) (news := [.bool false]) rfl (by simp [Value.oneCell']) (by unfold maxLen; omega) (by unfold maxBytes; omega) fun g5 c5 w5 s5 => ?_
    have y5 := s5.box 0 rfl
    simp [boxAt] at y5
    have s6 := s5.set 0 rfl 1 (.slice (some ⟨g5, 0, none⟩) (l.length + 1) c5)
    have y6 := s6.box 0 rfl
    simp [boxAt] at y6
    have wl : IntKind.i64.wrap (l.length : Int) = (l.length : Int) := IntWalk.i64_in _ (by omega)
    simp -dsimp [go_sem, y5, y6, wl]
    refine hR _ _ ?_
    unfold leafS
    rw [if_neg (by omega)]
    refine ⟨rfl, hback _ (AR 70 b (l ++ [(sy, -1, tk, [])]) met) (some ⟨g3, 0, none⟩, c3, some ⟨g5, 0, none⟩, c5, vs ++ [.slice none 0 0]) ?_⟩
    have s7 := (s6.merge (j := 4) (k := 3) rfl rfl (by omega) (e := rowsC 3 1 (vs ++ [.slice none 0 0]) ((l.map fun y => y.2.2.2.flatMap cNdI) ++ [[]])) fun F F' h1 h2 => rowsC_snoc (size := 1) h1 h2).take 4
    have e7 : (((l ++ [((sy, -1, tk, []) : Nd)]).zip (vs ++ [.slice none 0 0])).flatMap cNd) = (l.zip vs).flatMap cNd ++ [.int .i64 sy, .int .i64 (-1), .int .i64 tk, .slice none 0 0] := zip_more hvs
    unfold AR
    simp only [List.length_append, List.length_cons, List.length_nil, Nat.zero_add, e7, ← metV_more hm, List.map_append, List.map_cons, List.map_nil]
    exact s7

theorem refJoin_ct {G : Nat → Prop} {W w : World} {L : List Ch} {k b : Nat} {l : List Nd} {met : List Nat} {vk : Value} {ks : List Int} {sy pr : Int} (s : St G W w L) (hk : L[k]? = some (arC 70 b l met)) (hm : ∀ i ∈ met, i < l.length) (hb : (l.length + 1) * 48 ≤ maxBytes) (hkf : ks.length * 8 ≤ maxBytes)
    (hrd : ∀ w' c, St G W w' (L.set k c) → (rSlice rInt).at1 w' w'.heap.size vk ks) :
    Ct Try.prog ref20_Arena_Join.id #[.pointer (some ⟨b, 0, none⟩), .int .i64 sy, .int .i64 pr, vk] w fun v w' => v = .tuple #[.int .i64 (joinS l met sy pr ks).1.1, .int .i64 (joinS l met sy pr ks).1.2] ∧ St G W w' (L.set k (arC 70 b (joinS l met sy pr ks).2.1 (joinS l met sy pr ks).2.2)) := by
  refine ref20_Arena_Join.ct fun R hR => ?_
  have hbad : ∀ w', (sy < 0 ∨ pr < 0 ∨ ¬ kidsOk l.length met ks) → St G W w' (L.set k (arC 70 b l met)) → R (.returned (.tuple #[.int .i64 0, .int .i64 1])) w' := fun w' h hs => by
    unfold joinS at hR
    rw [if_pos h] at hR
    exact hR _ _ ⟨rfl, hs⟩
  have s0 : St G W w (L.set k (arC 70 b l met)) := by rw [set_same hk]; exact s
  have hl : l.length ≤ 3000000000000 := by unfold maxBytes at hb; omega
  unfold ref20_Arena_Join.run
  simp -dsimp [go_sem]
  refine SPL_intro (fun p1 => ?_) (fun p1 => ?_) <;> simp at p1
  · unfold ref20_Arena_Join.b24
    simp -dsimp [go_sem]
    exact hbad _ (Or.inl p1) s0
  simp -dsimp [go_sem]
  unfold ref20_Arena_Join.b24
  refine SPL_intro (fun p2 => ?_) (fun p2 => ?_) <;> simp at p2
  · exact hbad _ (Or.inr (Or.inl p2)) s0
  obtain ⟨F, x, si, hch, hback⟩ := s.inEx hk
  have rd : ∀ w' met' x', St F w w' (AR 70 b l met' x') → (rSlice rInt).at1 w' w'.heap.size vk ks := fun w' met' x' s' => hrd w' _ (hback w' (AR 70 b l met') x' s')
  obtain ⟨Ak, ck, rfl, hk1, hk2, _⟩ := slice_form (rd w met x si)
  unfold ref20_Arena_Join.b5
  refine ref20_Arena_Join.l7_intro _ _ _ _ _ _ _ (fun y w' => ∃ i : Nat, y = .int .i64 i ∧ i ≤ ks.length ∧ kidsOk l.length met (ks.take i) ∧ St F w w' (AR 70 b l ((ks.take i).map Int.toNat ++ met) x)) (fun y _ => ks.length - iv y) ⟨0, rfl, by omega, by simp [kidsOk, freshN], by simpa using si⟩ ?_
  rintro _ w2 ⟨i, rfl, hi, ⟨hr0, hf⟩, s2⟩ C hC
  simp -dsimp [go_sem]
  refine SPL_intro (fun p3 => ?_) (fun p3 => ?_) <;> simp at p3
  · have wi : IntKind.i64.wrap ((i : Int) + 1) = (i : Int) + 1 := wrap_succ (n := ks.length) (by omega) (by omega)
    obtain ⟨g, o, rfl, _, ck1, _⟩ := Go.Px.ints_at (rd _ _ _ s2) p3
    have y2 := s2.box 0 rfl
    simp [boxAt] at y2
    have hno : ∀ w', ¬ kidsOk l.length met ks → St F w w' (AR 70 b l ((ks.take i).map Int.toNat ++ met) x) → ref20_Arena_Join.b15 R C (.pointer (some ⟨b, 0, none⟩)) (.slice (some ⟨g, o, none⟩) ks.length ck) (.int .i64 i) (.bool true) w' := by
      intro w' hbd s3
      unfold ref20_Arena_Join.b15
      simp -dsimp [go_sem]
      unfold ref20_Arena_Join.b18
      refine ref20_Arena_Join.l20_intro _ _ _ _ _ _ _ (fun y w' => ∃ d : Nat, y = .int .i64 d ∧ d ≤ i ∧ St F w w' (AR 70 b l (((ks.take i).drop d).map Int.toNat ++ met) x)) (fun y _ => i - iv y) ⟨0, rfl, by omega, by simpa using s3⟩ ?_
      rintro _ w3 ⟨d, rfl, hd, s3⟩ C2 hC2
      simp -dsimp [go_sem]
      refine SPL_intro (fun p5 => ?_) (fun p5 => ?_) <;> simp at p5
      · have hdk : d < ks.length := by omega
        obtain ⟨g', o', eg, _, ck3, _⟩ := Go.Px.ints_at (rd _ _ _ s3) hdk
        injection eg with eg; injection eg with eg1 eg2; subst eg1 eg2
        have hdt : d < (ks.take i).length := by rw [List.length_take]; omega
        have hdr := hr0 (ks.take i)[d] (List.getElem_mem hdt)
        rw [List.getElem_take] at hdr
        obtain ⟨t, ht⟩ : ∃ t : Nat, ks[d] = t := ⟨ks[d].toNat, by omega⟩
        rw [ht] at ck3 hdr
        have htN : t < l.length := by omega
        have y3 := s3.box 0 rfl
        simp [boxAt] at y3
        have et : (ks.take i).drop d = (t : Int) :: (ks.take i).drop (d + 1) := by
          rw [List.drop_eq_getElem_cons hdt]
          congr 1
          rw [List.getElem_take, ht]
        have hnin : t ∉ ((ks.take i).drop (d + 1)).map Int.toNat ++ met := by
          intro h
          rcases List.mem_append.1 h with h | h
          · have hnd := hf.1
            rw [← List.take_append_drop d (ks.take i), List.map_append, List.nodup_append, et, List.map_cons, List.nodup_cons] at hnd
            exact hnd.2.1.1 (by simpa using h)
          · refine hf.2 t ?_ h
            rw [← List.take_append_drop d (ks.take i), et]; simp
        obtain ⟨gm', em', cm3, fm3⟩ := s3.rowAt 2 rfl (j := t) (by rw [metV_len]; exact htN)
        obtain ⟨x1, x2, x3, x4, x5⟩ := x
        dsimp only at em'
        subst em'
        have cmv3 : (metV l.length (((ks.take i).drop d).map Int.toNat ++ met))[t]'(by rw [metV_len]; exact htN) = .bool (decide (t ∈ ((ks.take i).drop d).map Int.toNat ++ met)) := by
          have := metV_get (met := ((ks.take i).drop d).map Int.toNat ++ met) htN
          rw [List.getElem?_eq_getElem (by rw [metV_len]; exact htN)] at this
          injection this
        rw [cmv3] at cm3
        have wd : IntKind.i64.wrap ((d : Int) + 1) = (d : Int) + 1 := wrap_succ (n := ks.length) (by omega) (by omega)
        have s4 := s3.setRow 2 rfl t (.bool false)
        rw [et, List.map_cons, List.cons_append, Int.toNat_natCast, metV_unset hnin] at s4
        unfold ref20_Arena_Join.b21_1
        simp -dsimp [go_sem, hdk, ck3, y3, htN, cm3, fm3, wd]
        exact hC2 _ _ ⟨d + 1, by simp, by omega, by first | exact s4 | exact s4.old (Chg.refl noB _).drew⟩ (by simp [iv]; omega)
      · have hdi : d = i := by omega
        subst hdi
        have e0 : (ks.take d).drop d = [] := List.drop_eq_nil_of_le (by rw [List.length_take]; omega)
        rw [e0] at s3
        unfold ref20_Arena_Join.b17
        exact hbad _ (Or.inr (Or.inr hbd)) (hback _ (AR 70 b l met) x s3)
    have hkm2 : ks[i] ∈ ks := List.getElem_mem p3
    have s2d := s2.old (Chg.refl noB _).drew
    unfold ref20_Arena_Join.b14
    simp -dsimp [go_sem, p3, ck1]
    refine SPL_intro (fun p4 => ?_) (fun p4 => ?_) <;> simp at p4
    · exact hno _ (fun h => by have := h.1 _ hkm2; omega) s2d
    unfold ref20_Arena_Join.b14_2
    simp -dsimp [go_sem, p3, ck1, y2]
    refine SPL_intro (fun p5 => ?_) (fun p5 => ?_) <;> simp at p5
    · exact hno _ (fun h => by have := h.1 _ hkm2; omega) s2d
    obtain ⟨j, hj⟩ : ∃ j : Nat, ks[i] = j := ⟨ks[i].toNat, by omega⟩
    rw [hj] at ck1 hkm2 p5
    have hjN : j < l.length := by omega
    obtain ⟨met1, hmet1⟩ : ∃ met1, (ks.take i).map Int.toNat ++ met = met1 := ⟨_, rfl⟩
    have s2m := s2
    rw [hmet1] at s2m
    obtain ⟨gm, em, cm, fm⟩ := s2m.rowAt 2 rfl (j := j) (by rw [metV_len]; exact hjN)
    have cmv : (metV l.length met1)[j]'(by rw [metV_len]; exact hjN) = .bool (decide (j ∈ met1)) := by
      have := metV_get (met := met1) hjN
      rw [List.getElem?_eq_getElem (by rw [metV_len]; exact hjN)] at this
      injection this
    rw [cmv] at cm
    have hmi : (ks.map Int.toNat)[i]'(by simpa using p3) = j := by simp [hj]
    have htm : (ks.map Int.toNat).take i = (ks.take i).map Int.toNat := by simp
    have y2' := y2
    rw [em] at y2'
    unfold ref20_Arena_Join.b14_1
    simp -dsimp [go_sem, p3, ck1, y2', hjN, cm]
    cases p6 : decide (j ∈ met1) with
    | true =>
      have hin : j ∈ met1 := by simpa using p6
      exact hno _ (fun h => fresh_not (ks := ks.map Int.toNat) (i := i) (by simpa using p3) (by rw [hmi, htm, hmet1]; exact hin) h.2) s2d
    | false =>
      have hnin : j ∉ met1 := by simpa using p6
      have hf2 : freshN met ((ks.take (i + 1)).map Int.toNat) := by
        have := fresh_take (met := met) (ks := ks.map Int.toNat) (i := i) (by rw [htm]; exact hf) (by simpa using p3) (by rw [hmi, htm, hmet1]; exact hnin)
        simpa using this
      obtain ⟨x1, x2, x3, x4, x5⟩ := x
      dsimp only at em
      subst em
      have s3 := s2m.setRow 2 rfl j (.bool true)
      rw [metV_set] at s3
      have et : ks.take (i + 1) = ks.take i ++ [(j : Int)] := by rw [List.take_succ_eq_append_getElem p3, hj]
      have e2 : metV l.length ((ks.take (i + 1)).map Int.toNat ++ met) = metV l.length (j :: met1) := metV_congr fun x => by rw [et, ← hmet1]; simp; exact or_left_comm
      unfold ref20_Arena_Join.b15
      simp -dsimp [go_sem]
      unfold ref20_Arena_Join.b22
      simp -dsimp [go_sem, p3, ck1, y2, hjN, cm, fm, wi]
      refine hC _ _ ⟨i + 1, by simp, by omega, ⟨fun y hy => ?_, hf2⟩, ?_⟩ (by simp [iv]; omega)
      · rw [et] at hy
        rcases List.mem_append.1 hy with hy | hy
        · exact hr0 y hy
        · simp at hy; subst hy; omega
      · unfold AR
        rw [e2]
        exact s3.old (Chg.refl noB _).drew.drew
  · have hik : i = ks.length := by omega
    subst hik
    rw [List.take_length] at hr0 hf s2
    have hok : kidsOk l.length met ks := ⟨hr0, hf⟩
    have hno : ¬ (sy < 0 ∨ pr < 0 ∨ ¬ kidsOk l.length met ks) := by rintro (h | h | h) <;> first | omega | exact h hok
    have hR2 : ∀ w' x', St F w w' (AR 70 b (l ++ [(sy, pr, 0, ks)]) (kidsN (0, 0, 0, ks) ++ met) x') → R (.returned (.tuple #[.int .i64 l.length, .int .i64 0])) w' := by
      intro w' x' s'
      refine hR _ _ ?_
      unfold joinS
      rw [if_neg hno]
      exact ⟨rfl, hback _ (AR 70 b (l ++ [(sy, pr, 0, ks)]) (kidsN (0, 0, 0, ks) ++ met)) x' s'⟩
    clear hR hC hbad
    obtain ⟨an, cn, at', ct, vs⟩ := x
    have hvs : vs.length = l.length := by
      obtain ⟨F, ho, _⟩ := s2.get (k := 3) rfl
      have := ho.1; simpa using this
    have y2 := s2.box 0 rfl
    simp [boxAt] at y2
    have hm2 : ∀ i ∈ kidsN (0, 0, 0, ks) ++ met, i < l.length := by
      intro i hi
      rcases List.mem_append.1 hi with hi | hi
      · obtain ⟨y, hy, rfl⟩ := List.mem_map.1 hi
        have := hr0 y hy; omega
      · exact hm i hi
    have s3 := s2.lit 3 1 0 #[] (by simp) (by simp)
    have y3 := (s3.box 0 rfl).1
    simp only [boxAt] at y3
    have y3a := y3.1
    have hrd2 : (rSlice rInt).at1 (w2.alloc (.cells #[] 3)) w2.heap.size (.slice Ak ks.length ck) ks := Rep.below (rd _ _ _ s2) (((Chg.refl noB w2).alloc _).below (Nat.le_refl _) fun _ _ => id)
    unfold ref20_Arena_Join.b4
    simp -dsimp [go_sem, y2, y3a]
    have s3 : St F w (w2.alloc (.cells #[] 3)).drew (AR 70 b l (ks.map Int.toNat ++ met) (an, cn, at', ct, vs) ++ [rowC 3 1 (some ⟨w2.heap.size, 0, none⟩) 0 0 []]) := s3.old (Chg.refl noB _).drew
    have hrd3 : (rSlice rInt).at1 (w2.alloc (.cells #[] 3)).drew w2.heap.size (.slice Ak ks.length ck) ks := Rep.below hrd2 ((Chg.refl noB _).drew.below (by simp) fun _ _ => id)
    clear y3 y3a hrd2
    generalize (w2.alloc (.cells #[] 3)).drew = w3 at s3 hrd3 ⊢
    refine s3.appendRd (r := rInt) (enc := cNdI) 4 rfl uInts iInt rfl (by decide) hrd3 (fun h _ => h.1) (fun x _ u hu => by simp [cNdI] at hu; subst hu; rfl) (fun _ _ => rfl) (by unfold maxLen; unfold maxBytes at hkf; omega) (by omega) ?_
    intro ka kc w5 s5
    rw [Nat.zero_add] at s5 ⊢
    have s5 : St F w w5 (AR 70 b l (ks.map Int.toNat ++ met) (an, cn, at', ct, vs) ++ [rowC 3 1 ka ks.length kc (ks.flatMap cNdI)]) := s5
    have y5 := s5.box 0 rfl
    simp [boxAt] at y5
    have s6 := s5.alloc #[.int .i64 sy, .int .i64 pr, .int .i64 0, .slice ka ks.length kc] 61
    have y6 := (s6.box 0 rfl).1
    simp only [boxAt] at y6
    have y6 := y6.1
    simp -dsimp [go_sem, y5, y6]
    refine s5.append1 1 rfl uNds iNd rfl (by omega) (news := [.int .i64 sy, .int .i64 pr, .int .i64 0, .slice ka ks.length kc]) rfl (by simp [Value.oneCell']) (by unfold maxLen; omega) (by omega) fun g3 c3 w7 s7 => ?_
    have y7 := s7.box 0 rfl
    simp [boxAt] at y7
    have s8 := s7.set 0 rfl 0 (.slice (some ⟨g3, 0, none⟩) (l.length + 1) c3)
    have y8 := s8.box 0 rfl
    simp [boxAt] at y8
    simp -dsimp [go_sem, y7, y8]
    have hsz4 : (w7.setCell ⟨b, 0, none⟩ (.slice (some ⟨g3, 0, none⟩) (l.length + 1) c3)).heap.size = w7.heap.size := by simp
    rw [← hsz4]
    clear hsz4
    generalize w7.setCell ⟨b, 0, none⟩ (.slice (some ⟨g3, 0, none⟩) (l.length + 1) c3) = w8 at s8 y8 ⊢
    refine s8.append1 2 rfl uFlags iBool' rfl (by omega) (news := [.bool false]) rfl (by simp [Value.oneCell']) (by unfold maxLen; omega) (by unfold maxBytes; omega) fun g9 c9 w9 s9 => ?_
    have y9 := s9.box 0 rfl
    simp [boxAt] at y9
    have s10 := s9.set 0 rfl 1 (.slice (some ⟨g9, 0, none⟩) (l.length + 1) c9)
    have y10 := s10.box 0 rfl
    simp [boxAt] at y10
    have wl : IntKind.i64.wrap (l.length : Int) = (l.length : Int) := IntWalk.i64_in _ (by omega)
    simp -dsimp [go_sem, y9, y10, wl]
    refine hR2 _ (some ⟨g3, 0, none⟩, c3, some ⟨g9, 0, none⟩, c9, vs ++ [.slice ka ks.length kc]) ?_
    have s11 := (s10.merge (j := 4) (k := 3) rfl rfl (by omega) (e := rowsC 3 1 (vs ++ [.slice ka ks.length kc]) ((l.map fun y => y.2.2.2.flatMap cNdI) ++ [ks.flatMap cNdI])) fun F F' h1 h2 => rowsC_snoc (size := 1) h1 h2).take 4
    have e7 : (((l ++ [((sy, pr, 0, ks) : Nd)]).zip (vs ++ [.slice ka ks.length kc])).flatMap cNd) = (l.zip vs).flatMap cNd ++ [.int .i64 sy, .int .i64 pr, .int .i64 0, .slice ka ks.length kc] := zip_more hvs
    unfold AR
    simp only [List.length_append, List.length_cons, List.length_nil, Nat.zero_add, e7, ← metV_more hm2, List.map_append, List.map_cons, List.map_nil]
    exact s11
end Go.Proofs.Ytkacbjhiobnbfaa

