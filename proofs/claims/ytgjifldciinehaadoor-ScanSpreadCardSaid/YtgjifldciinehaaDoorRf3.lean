/-
  The document's answer: all words.
-/
import Derived.Test.YtgjifldciinehaaDoorRf2
import Derived.Test.YtgjifldciinehaaDoorSc8
namespace Go.Proofs.YtgjifldciinehaaDoor
open Go.Px Go.Px.Scan Go.RowKit
set_option maxHeartbeats 1000000
set_option linter.unusedSimpArgs false

theorem info42 : (Tryd.prog.info? 42).map (fun i => (i.zero, i.size, i.bytes)) = some (some (.agg #[.int .i64 0, .string ⟨#[]⟩, .int .i64 0]), 3, 32) := by kernel_rfl

theorem ref_All_ct {s : ByteArray} (hs : s.size ≤ maxLen) (w : World) : Ct Tryd.prog ref03_All.id #[.string s] w fun v w' =>
    (∃ sl, v = .tuple #[sl, badV (wordsS s).2] ∧ w'.ownsRow w.heap.size 42 3 sl (wordsS s).1.length ((wordsS s).1.flatMap encW)) ∧ Chg (fun _ => False) w w' := by
  refine ref03_All.ct fun R hR => ?_
  unfold ref03_All.run ref03_All.b1
  simp [go_sem]
  refine SPL_intro (fun h => ?_) (fun h => ?_) <;> simp at h
  · have h' : 8192 < s.size := by omega
    refine hR _ _ ⟨⟨.slice none 0 0, ?_, ?_⟩, Chg.refl _ _⟩
    · unfold wordsS; rw [if_pos h']; rfl
    · unfold wordsS; rw [if_pos h']; exact World.ownsRow_nil _ _ _ _
  · have h' : ¬ 8192 < s.size := by omega
    have hws : wordsS s = allS s 0 := by unfold wordsS; rw [if_neg h']
    unfold ref03_All.b4
    refine CALL_of (ref_Skip_ct 0 (by omega) hs w) ?_
    rintro _ _ ⟨rfl, rfl⟩
    refine ref03_All.l6_intro _ _ _ _ _ (fun x y w1 => ∃ (j : Nat) (pre : List Wd), y = .int .i64 (skipS s false j : Nat) ∧ j ≤ s.size ∧ w1.ownsRow w.heap.size 42 3 x pre.length (pre.flatMap encW) ∧ Chg (fun _ => False) w w1 ∧ pre ++ (allS s j).1 = (allS s 0).1 ∧ (allS s j).2 = (allS s 0).2)
      (fun _ y _ => s.size - iv y) ⟨0, [], rfl, by omega, World.ownsRow_nil _ _ _ _, Chg.refl _ _, rfl, rfl⟩ ?_
    rintro x _ w1 ⟨j, pre, rfl, hj, ho, hc1, ha1, ha2⟩ C hC
    have hsl := skip_le s false j hj
    unfold ref03_All.b7
    generalize hap : Builtin.append_ = ap
    simp [go_sem]
    refine SPL_intro (fun h1 => ?_) (fun h1 => ?_) <;> simp at h1
    · refine CALL_of (ref_One_ct h1 hs w1) ?_
      rintro v w2 ⟨hv, hc2⟩
      have ho2 := ownsRow_chg ho hc2 (fun _ _ => id)
      have hc3 := hc1.trans hc2
      unfold OneR at hv
      cases h4 : oneS s (skipS s false j) with
      | bad n =>
        rw [h4] at hv
        subst hv
        rw [all_bad h1 h4] at ha1 ha2
        unfold wdV'
        simp [go_sem]
        refine hR _ _ ⟨⟨x, by rw [hws, ← ha2]; rfl, ?_⟩, hc3.alloc _⟩
        rw [hws, ← ha1]
        simpa using ownsRow_chg ho2 ((Chg.refl (fun _ => False) _).alloc _) (fun _ _ => id)
      | word kd a e n =>
        rw [h4] at hv
        subst hv
        rw [all_word h1 h4] at ha1 ha2
        have hone := one_word h1 h4
        unfold wdV'
        simp [go_sem]
        rw [← hap]
        clear hap ap
        obtain ⟨i0, hi, hz0, hz1, hz2⟩ := info_parts info42
        generalize hw3 : (w2.alloc (Obj.cells #[Value.int IntKind.i64 kd, Value.string (s.extract a e), Value.int IntKind.i64 (skipS s false j)] 42)).alloc _ = w3
        have hlen := all_len s 0 (Nat.zero_le _)
        rw [← ha1] at hlen
        simp only [List.length_append, List.length_cons] at hlen
        have hn : ∀ j' u, (encW ((kd : Int), s.extract a e, (skipS s false j : Int)))[j']? = some u → w3.cell? ((⟨w2.heap.size + 1, 0, none⟩ : Addr).add j') = some u := by
          rw [← hw3]
          exact alloc_cells (w2.alloc _) (encW ((kd : Int), s.extract a e, (skipS s false j : Int))) 42 (by simp)
        have hc23 : Chg (fun _ => False) w2 w3 := by rw [← hw3]; exact ((Chg.refl _ _).alloc _).alloc _
        have ho3 := ownsRow_chg ho2 hc23 (fun _ _ => id)
        have hs3 : w3.heap.size = w2.heap.size + 2 := by rw [← hw3]; simp
        clear hw3
        have hw12 := hc1.size
        have hw22 := hc2.size
        refine append_own 23 23 42 Tryd.underlying23 hi hz0 hz1 hz2 rfl (by omega) ho3 rfl hn ?_ (by unfold maxLen; omega) (by unfold maxBytes; omega) (by omega) ?_
        · intro u hu
          simp [encW] at hu
          rcases hu with rfl | rfl | rfl <;> rfl
        intro g c3 w4 ho4 hg4 hgb
        have hc34 : Chg (fun i => w.heap.size ≤ i) w3 w4 := grown_chg hg4 fun k hk => (ownsRow_block ho3 hk).1
        refine CALL_of (ref_Skip_ct n hone.2.1 hs w4) ?_
        rintro _ _ ⟨rfl, rfl⟩
        refine hC _ _ _ ⟨n, pre ++ [((kd : Int), s.extract a e, (skipS s false j : Int))], rfl, hone.2.1, ?_, (hc3.trans hc23).trans' hc34 (fun i hi h => by omega), ?_, ?_⟩ ?_
        · simpa using ho4
        · rw [← ha1]; simp
        · rw [← ha2]
        · have := skip_ge s false n
          simp [iv]; omega
    · unfold ref03_All.b3
      rw [all_end (by omega)] at ha1 ha2
      refine hR _ _ ⟨⟨x, by rw [hws, ← ha2]; rfl, ?_⟩, hc1⟩
      rw [hws, ← ha1]
      simpa using ho
end Go.Proofs.YtgjifldciinehaaDoor
