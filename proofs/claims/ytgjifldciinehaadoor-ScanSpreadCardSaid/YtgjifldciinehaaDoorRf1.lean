/-
  The document's answer: skipping, orders.
-/
import Derived.Test.YtgjifldciinehaaDoorSc1
import Derived.Test.YtgjifldciinehaaDoorScSpec2
import Derived.Test.YtgjifldciinehaaDoorPxOwn
namespace Go.Proofs.YtgjifldciinehaaDoor
open Go.Px Go.Px.Scan Go.RowKit
set_option maxHeartbeats 1000000
set_option linter.unusedSimpArgs false

theorem ref_Skip_ct {s : ByteArray} (k : Nat) (hk : k ≤ s.size) (hs : s.size ≤ maxLen) (w : World) : Ct Tryd.prog ref03_Skip.id #[.string s, .int .i64 k] w fun v w' => v = .int .i64 (skipS s false k : Nat) ∧ w = w' := by
  refine ref03_Skip.ct fun R hR => ?_
  unfold ref03_Skip.run ref03_Skip.b1
  refine ref03_Skip.l5_intro _ _ _ _ _ (fun x c w1 => ∃ (j : Nat) (cm : Bool), x = .int .i64 j ∧ c = .bool cm ∧ w = w1 ∧ j ≤ s.size ∧ skipS s cm j = skipS s false k) (fun x _ _ => s.size - iv x) ⟨k, false, rfl, rfl, rfl, hk, rfl⟩ ?_
  rintro _ _ _ ⟨j, cm, rfl, rfl, rfl, hj, he⟩ C hC
  unfold ref03_Skip.b6
  simp [go_sem]
  refine SPL_intro (fun h => ?_) (fun h => ?_) <;> simp at h
  · have step : ∀ cm', skipS s cm j = skipS s cm' (j + 1) → ref03_Skip.b10 R C (.int .i64 j) (.bool cm') w := by
      intro cm' he'
      unfold ref03_Skip.b10
      simp [go_sem, wrap_succ h hs]
      exact hC _ _ _ ⟨j + 1, cm', rfl, rfl, rfl, h, by rw [← he, he']⟩ (by simp [iv]; omega)
    have body : ∀ bl, bl = blankN (bt s j) → ref03_Skip.b9 R C (.int .i64 j) (.bool cm) (.int .u8 (bt s j)) (.bool bl) w := by
      intro bl hbl
      unfold ref03_Skip.b9
      cases cm with
      | true =>
        simp [go_sem]
        refine step _ ?_
        conv => lhs; unfold skipS
        rw [if_pos h, if_pos rfl]
        congr 1
        rw [Bool.eq_iff_iff]; simp; omega
      | false =>
        simp [go_sem]
        refine SPL_intro (fun h1 => ?_) (fun h1 => ?_) <;> simp at h1
        · refine step _ ?_
          conv => lhs; unfold skipS
          rw [if_pos h, if_neg (by simp), if_pos (by omega)]
        · cases bl with
          | true => simp [go_sem]; exact step _ (skip_blank h hbl.symm)
          | false => simp [go_sem]; exact hR _ _ ⟨by rw [← he, skip_none h hbl.symm (by omega)], rfl⟩
    unfold ref03_Skip.b8
    simp [go_sem, index_bt, h]
    refine SPL_intro (fun h1 => ?_) (fun h1 => ?_) <;> simp at h1
    · exact body _ (by simp [blankN]; omega)
    simp [go_sem]
    refine SPL_intro (fun h2 => ?_) (fun h2 => ?_) <;> simp at h2
    · exact body _ (by simp [blankN]; omega)
    simp [go_sem]
    refine SPL_intro (fun h3 => ?_) (fun h3 => ?_) <;> simp at h3
    · exact body _ (by simp [blankN]; omega)
    simp [go_sem]
    exact body _ (by rw [Bool.eq_iff_iff]; simp [blankN]; omega)
  · unfold ref03_Skip.b3
    exact hR _ _ ⟨by rw [← he, skip_end h], rfl⟩

def ordersR : List ByteArray := [⟨#[37, 116, 111, 107, 101, 110]⟩, ⟨#[37, 108, 101, 102, 116]⟩, ⟨#[37, 114, 105, 103, 104, 116]⟩, ⟨#[37, 110, 111, 110, 97, 115, 115, 111, 99]⟩, ⟨#[37, 115, 116, 97, 114, 116]⟩, ⟨#[37, 112, 114, 101, 99]⟩, ⟨#[37, 110, 111, 110, 101]⟩]

theorem ordersR_any (p : ByteArray → Bool) : ordersR.any p = ordersL.any p := by
  simp only [ordersR, ordersL, List.any_cons, List.any_nil, Bool.or_false]
  generalize p ⟨#[37, 116, 111, 107, 101, 110]⟩ = a1
  generalize p ⟨#[37, 108, 101, 102, 116]⟩ = a2
  generalize p ⟨#[37, 114, 105, 103, 104, 116]⟩ = a3
  generalize p ⟨#[37, 110, 111, 110, 97, 115, 115, 111, 99]⟩ = a4
  generalize p ⟨#[37, 115, 116, 97, 114, 116]⟩ = a5
  generalize p ⟨#[37, 112, 114, 101, 99]⟩ = a6
  generalize p ⟨#[37, 110, 111, 110, 101]⟩ = a7
  revert a1 a2 a3 a4 a5 a6 a7
  decide

theorem ref_Orders_ct (w : World) : Ct Tryd.prog ref03_Orders.id #[] w fun v w' => v = .slice (some ⟨w.heap.size, 0, none⟩) 7 7 ∧ w.alloc (.cells (ordersR.map Value.string).toArray 9) = w' := by
  refine ref03_Orders.ct fun R hR => ?_
  unfold ref03_Orders.run ref03_Orders.b1
  simp [go_sem]
  exact hR _ _ ⟨rfl, rfl⟩

theorem prefB_self (o s : ByteArray) : (o.toList == s.toList || (decide (s.size < o.size) && ((o.extract 0 s.size).toList == s.toList))) = prefB o s := by
  have ho : o.toList.length = o.size := by rw [ByteArray.toList_eq]; simp
  have hs : s.toList.length = s.size := by rw [ByteArray.toList_eq]; simp
  have hx : (o.extract 0 s.size).toList = o.toList.take s.size := by rw [Lib.extract_toList, ByteArray.toList_eq]; simp
  unfold prefB
  rw [hx]
  rcases Nat.lt_trichotomy s.size o.size with h | h | h
  · have h1 : (o.toList == s.toList) = false := by
      rw [beq_eq_false_iff_ne]; intro e; have := congrArg List.length e; omega
    rw [h1, decide_eq_true h, decide_eq_true (Nat.le_of_lt h)]; simp
  · rw [h, ← ho, List.take_length, ho]
    simp
  · have h1 : (o.toList == s.toList) = false := by
      rw [beq_eq_false_iff_ne]; intro e; have := congrArg List.length e; omega
    rw [h1, decide_eq_false (by omega : ¬ s.size < o.size), decide_eq_false (by omega : ¬ s.size ≤ o.size)]; simp

theorem ref_begun_ct (p : ByteArray) (all : Bool) (w : World) : Ct Tryd.prog ref03_begun.id #[.string p, .bool all] w fun v w' =>
    v = .bool (if all then whole p else Scan.begun p) ∧ Chg (fun _ => False) w w' := by
  refine ref03_begun.ct fun R hR => ?_
  unfold ref03_begun.run ref03_begun.b1
  refine CALL_of (ref_Orders_ct w) ?_
  rintro _ w1 ⟨rfl, hw1⟩
  have hc1 : Chg (fun _ => False) w w1 := by rw [← hw1]; exact (Chg.refl _ _).alloc _
  have hcell : ∀ (i : Nat) (hi : i < 7), w1.cell? ⟨w.heap.size, 0 + i, none⟩ = some (.string (ordersR[i]'hi)) := by
    intro i hi
    rw [← hw1, new_cell _ _ _ rfl, Nat.zero_add, List.getElem?_toArray, List.getElem?_map, List.getElem?_eq_getElem (show i < ordersR.length from hi)]
    rfl
  clear hw1
  unfold ref03_begun.b4
  have hq : (if all then whole p else Scan.begun p) = ordersR.any fun o => (o.toList == p.toList) || (!all && (decide (p.size < o.size) && ((o.extract 0 p.size).toList == p.toList))) := by
    rw [ordersR_any]
    cases all with
    | true => simp only [if_true, whole, Bool.not_true, Bool.false_and, Bool.or_false]; congr 1; funext o; exact BEq.comm
    | false => simp only [Scan.begun, Bool.not_false, Bool.true_and, prefB_self]; rfl
  rw [hq] at hR
  generalize hqq : (fun o : ByteArray => (o.toList == p.toList) || (!all && (decide (p.size < o.size) && ((o.extract 0 p.size).toList == p.toList)))) = q at hR
  refine ref03_begun.l6_intro _ _ _ _ _ _ (fun x w2 => ∃ k : Nat, x = .int .i64 k ∧ k ≤ 7 ∧ w1 = w2 ∧ (ordersR.take k).any q = false) (fun x _ => 7 - iv x) ⟨0, rfl, by omega, rfl, rfl⟩ ?_
  rintro _ _ ⟨k, rfl, hk, rfl, hno⟩ C hC
  unfold ref03_begun.b7
  simp [go_sem]
  refine SPL_intro (fun h => ?_) (fun h => ?_) <;> simp at h
  · have hc := hcell k (by omega)
    have hk7 : k < ordersR.length := by show k < 7; omega
    generalize ho : ordersR[k]'(by show k < 7; omega) = o at hc
    have hq1 : ∀ b, b = q o → ref03_begun.b12 R C (.int .i64 k) (.bool b) w1 := by
      intro b hb
      unfold ref03_begun.b12
      refine SPL_intro (fun h1 => ?_) (fun h1 => ?_)
      · refine hR _ _ ⟨?_, hc1⟩
        have : ordersR.any q = true := List.any_eq_true.2 ⟨o, by rw [← ho]; exact List.getElem_mem _, by rw [← hb]; exact h1⟩
        rw [this]
      · unfold ref03_begun.b9
        simp [go_sem, wrap_succ (show k < 7 by omega) (show 7 ≤ maxLen by decide)]
        refine hC _ _ ⟨k + 1, rfl, by omega, rfl, ?_⟩ (by simp [iv]; omega)
        rw [List.take_succ_eq_append_getElem hk7, List.any_append, hno]
        simp only [List.any_cons, List.any_nil, Bool.or_false, Bool.false_or]
        rw [ho, ← hb]; exact h1
    unfold ref03_begun.b11
    have hk7' : (k : Int) < 7 := by omega
    rw [Nat.zero_add] at hc
    simp [go_sem, hc, hk7', show k < 7 by omega]
    rw [← hqq] at hq1
    refine SPL_intro (fun h1 => ?_) (fun h1 => ?_)
    · exact hq1 _ (by simp [h1])
    cases all with
    | true =>
      simp [go_sem]
      exact hq1 _ (by simp at h1; simp [h1])
    | false =>
      simp [go_sem, hc, hk7', show k < 7 by omega]
      refine SPL_intro (fun h2 => ?_) (fun h2 => ?_) <;> simp at h2
      · simp [go_sem, hc, hk7', show k < 7 by omega, show p.size ≤ o.size by omega]
        exact hq1 _ (by simp at h1; simp [h1, h2])
      · exact hq1 _ (by simp at h1; simp [h1]; intro h3; omega)
  · unfold ref03_begun.b3
    refine hR _ _ ⟨?_, hc1⟩
    rw [List.take_of_length_le (by show 7 ≤ k; omega)] at hno
    rw [hno]
end Go.Proofs.YtgjifldciinehaaDoor
