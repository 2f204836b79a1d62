/-
  strings.Clone.
-/
import Derived.Test.YtmhebgebfjnfjaaGm1
import Derived.Lib.UnsafeStr
import Derived.Lib.BufferWrite
import Derived.Laws.MakeOwn
namespace Go.Proofs.Ytmhebgebfjnfjaa
open Go.Px Go.Px.Scan Go.RowKit
set_option maxHeartbeats 1000000
set_option linter.unusedSimpArgs false

theorem info_u8 : (Try.prog.info? 5).map (fun i => (i.zero, i.size, i.bytes)) = some (some (.int .u8 0), 1, 1) := by kernel_rfl
theorem info_parts {P : Program} {e : TypeId} {z : Value} {sz b : Nat} (h : (P.info? e).map (fun i => (i.zero, i.size, i.bytes)) = some (some z, sz, b)) : ∃ i, P.info? e = some i ∧ i.zero = some z ∧ i.size = sz ∧ i.bytes = b := by
  cases hq : P.info? e with
  | none => rw [hq] at h; cases h
  | some i => rw [hq] at h; simp at h; exact ⟨i, rfl, h.1, h.2.1, h.2.2⟩

theorem chg_modify {w : World} {g : Nat} (f : Obj → Obj) : Chg (· = g) w { w with heap := w.heap.modify g f } :=
  ⟨rfl, rfl, rfl, by simp, fun k _ hk => by rw [Array.getElem?_modify]; simp [Ne.symm hk]⟩
theorem chg_setRow {w : World} {g : Nat} (cs : Array Value) : Chg (· = g) w (w.setRow g cs) := chg_modify _
theorem chg_freeze {w : World} {a : Addr} {n : Nat} : Chg (· = a.block) w (w.freeze a n) := by
  unfold World.freeze
  split
  · exact Chg.refl _ _
  · exact chg_modify _

theorem slClone_ct {s : ByteArray} (hs : s.size ≤ 1000) (w : World) : Ct Try.prog internal_stringslite_Clone.id #[.string s] w fun v w' => v = .string s ∧ Chg (fun _ => False) w w' := by
  refine internal_stringslite_Clone.ct fun R hR => ?_
  obtain ⟨i0, hi, hz0, hz1, hz2⟩ := info_parts info_u8
  unfold internal_stringslite_Clone.run internal_stringslite_Clone.b1
  simp [go_sem]
  refine SPL_intro (fun h => ?_) (fun h => ?_) <;> simp at h
  · refine hR _ _ ⟨?_, Chg.refl _ _⟩
    rw [h]; rfl
  · have hpos : 0 < s.size := by
      rcases Nat.eq_zero_or_pos s.size with h0 | h0
      · exact absurd (bs_ext (by rw [show s.data.toList = [] from List.eq_nil_of_length_eq_zero (by simpa using h0)]; rfl)) h
      · exact h0
    simp [go_sem]
    rw [run_makeSlice w 51 5 i0 _ Try.underlying51 hi hz0 .i64 .i64 s.size s.size (by omega) (by omega) (by rw [hz1]; omega) (by rw [hz2]; omega) (by omega), RES_ok]
    have hcs : (madeCells (Value.int IntKind.u8 0).cells ((s.size : Int).toNat * i0.size)).size = s.size := by rw [size_madeCells, hz1]; simp
    generalize madeCells (Value.int IntKind.u8 0).cells ((s.size : Int).toNat * i0.size) = cs at hcs ⊢
    have hg1 : (w.alloc (.cells cs 5)).heap[w.heap.size]? = some (.cells cs 5 (0, 0)) := World.alloc_heap_new w _
    have hc1 : Chg (fun _ => False) w (w.alloc (.cells cs 5)) := (Chg.refl _ _).alloc _
    generalize w.alloc (.cells cs 5) = w1 at hg1 hc1 ⊢
    have hs1 := hc1.size
    rw [RUN_eq, Int.toNat_natCast, Lib.run_copy_row_string w1 51 9 3 5 w.heap.size 0 s.size s.size s cs 5 Try.underlying51 (by rw [hi, Option.map_some, hz1]) hg1 (Nat.le_refl _) (by omega), RES_ok]
    have hrow : (cs.toList.take 0 ++ Lib.byteCells s.data.toList ++ cs.toList.drop (0 + s.size)).toArray = (Lib.byteCells s.data.toList).toArray := by
      rw [List.take_zero, List.nil_append, List.drop_of_length_le (by simp; omega), List.append_nil]
    rw [hrow]
    have hc2 : Chg (fun _ => False) w (w1.setRow w.heap.size (Lib.byteCells s.data.toList).toArray) := hc1.trans' (chg_setRow _) (fun i hi h => by omega)
    have hg2 : (w1.setRow w.heap.size (Lib.byteCells s.data.toList).toArray).heap[w.heap.size]? = some (.cells (Lib.byteCells s.data.toList).toArray 5 (0, 0)) := by
      unfold World.setRow
      rw [Array.getElem?_modify, if_pos rfl, hg1]
      rfl
    generalize w1.setRow w.heap.size (Lib.byteCells s.data.toList).toArray = w2 at hc2 hg2 ⊢
    have hp : (0 : Int) < s.size := by omega
    simp [go_sem, hpos, hp]
    have hl : s.data.toList ≠ [] := fun e => by
      have h3 : s.data.toList.length = s.size := by simp
      rw [e] at h3; simp at h3; omega
    have hln : s.data.toList.length = s.size := by simp
    have hrun := Lib.run_unsafeString_row (P := Try.prog) (w := w2) 120 3 9 5 Try.underlying120 (by kernel_rfl) w.heap.size s.size (by
      unfold World.shape?
      rw [hg2]
      simp [Lib.byteCells]) s.data.toList hl (by omega) (by omega) (fun j x hj => by
        rw [Addr.add_lit]
        simp only [World.cell?, hg2, Nat.zero_add]
        simp [Lib.byteCells, hj])
    rw [hln] at hrun
    rw [hrun, RES_ok]
    refine hR _ _ ⟨by cases s; rfl, hc2.trans' chg_freeze (fun i hi h => ?_)⟩
    simp at h; omega

theorem Clone_ct {s : ByteArray} (hs : s.size ≤ 1000) (w : World) : Ct Try.prog strings_Clone.id #[.string s] w fun v w' => v = .string s ∧ Chg (fun _ => False) w w' := by
  refine strings_Clone.ct fun R hR => ?_
  unfold strings_Clone.run strings_Clone.b1
  exact CALL_of (slClone_ct hs w) fun v w' h => hR v w' h
end Go.Proofs.Ytmhebgebfjnfjaa
