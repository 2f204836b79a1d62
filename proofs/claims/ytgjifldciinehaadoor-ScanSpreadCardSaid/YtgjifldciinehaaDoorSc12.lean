/-
  scan.IsName, scan.IsTerm.
-/
import Derived.Test.YtgjifldciinehaaDoorSc11
namespace Go.Proofs.YtgjifldciinehaaDoor
open Go.Px Go.Px.Scan Go.RowKit
set_option maxHeartbeats 1000000
set_option linter.unusedSimpArgs false

theorem first_ct {s : ByteArray} {w : World} {B : Nat} (hO : Ord w B) (hB : B ≤ w.heap.size) :
    Ct Tryd.prog scan_first.id #[.string s] w fun v w' => v = wdV (firstS s) ∧ Chg (fun _ => False) w w' :=
  ⟨fun args w => Tryd.call26 args w, callsIn_wide.1 (first_in hO hB)⟩

def nameS (s : ByteArray) : Bool := decide ((firstS s).1 = 1) && ((firstS s).2.1.toList == s.toList)

theorem IsName_ct {s : ByteArray} {w : World} {B : Nat} (hO : Ord w B) (hB : B ≤ w.heap.size) :
    Ct Tryd.prog scan_IsName.id #[.string s] w fun v w' => v = .bool (nameS s) ∧ Chg (fun _ => False) w w' := by
  refine scan_IsName.ct fun R hR => ?_
  unfold scan_IsName.run scan_IsName.b1
  refine CALL_of (first_ct hO hB) ?_
  rintro _ w1 ⟨rfl, hc⟩
  simp [go_sem, wdV]
  refine SPL_intro (fun h => ?_) (fun h => ?_) <;> simp at h
  · simp [go_sem]
    refine hR _ _ ⟨?_, hc.alloc _⟩
    unfold nameS; simp [h]
  · refine hR _ _ ⟨?_, hc.alloc _⟩
    unfold nameS; simp [h]

def termS (s : ByteArray) : Bool := decide (0 < s.size ∧ s.size ≤ 16) && decide (runS plainN s 0 16 = s.size)

theorem ext_full {s : ByteArray} {e : Nat} (he : e ≤ s.size) : ((s.extract 0 e).toList == s.toList) = decide (e = s.size) := by
  have hl : s.toList.length = s.size := by rw [ByteArray.toList_eq]; simp
  by_cases h : e = s.size
  · subst h
    have : (s.extract 0 s.size).toList = s.toList := by
      rw [Lib.extract_toList, ByteArray.toList_eq]; simp; exact List.take_of_length_le (by simp)
    simp [this]
  · have : (s.extract 0 e).toList ≠ s.toList := by
      intro hc
      have hc := congrArg List.length hc
      rw [Lib.extract_toList, hl] at hc
      simp at hc
      omega
    rw [beq_eq_false_iff_ne.2 this]
    simp [h]

theorem IsTerm_ct {s : ByteArray} {w : World} (hs : s.size ≤ maxLen) :
    Ct Tryd.prog scan_IsTerm.id #[.string s] w fun v w' => v = .bool (termS s) ∧ Chg (fun _ => False) w w' := by
  refine scan_IsTerm.ct fun R hR => ?_
  unfold scan_IsTerm.run scan_IsTerm.b1
  simp [go_sem]
  refine SPL_intro (fun h => ?_) (fun h => ?_) <;> simp at h
  · simp [go_sem]
    refine SPL_intro (fun h2 => ?_) (fun h2 => ?_) <;> simp at h2
    · simp [go_sem]
      generalize hw1 : w.alloc (Obj.cells #[Value.string s, Value.int IntKind.i64 0] 56) = w1
      have hsc : Sc w1 w.heap.size s 0 := by
        rw [← hw1]
        exact ⟨new_cell _ _ _ rfl 0, new_cell _ _ _ rfl 1, new_frozen _ _ _ rfl 1, Nat.zero_le _, hs⟩
      have hc : Chg (fun _ => False) w w1 := by rw [← hw1]; exact (Chg.refl _ _).alloc _
      clear hw1
      refine CALL_of (run_ct 16 (by omega) hsc (p := plainN) (fun c hc w => plain_ct c w)) ?_
      rintro _ w2 ⟨rfl, h3, hc2⟩
      simp [go_sem]
      refine hR _ _ ⟨?_, hc.trans' hc2 (fun i hi h => by omega)⟩
      rw [ext_full h3.le]
      unfold termS
      have : (0 < s.size ∧ s.size ≤ 16) := by omega
      simp [this]
    · refine hR _ _ ⟨?_, Chg.refl _ _⟩
      unfold termS
      simp; omega
  · refine hR _ _ ⟨?_, Chg.refl _ _⟩
    unfold termS
    have : ¬ (0 < s.size ∧ s.size ≤ 16) := by simp [h]
    simp [this]
end Go.Proofs.YtgjifldciinehaaDoor
