/-
  The scanner goes over the words, for a function of ours.
-/
import Derived.Test.YtgjifldciinehaaDoorSc6
namespace Go.Proofs.YtgjifldciinehaaDoor
open Go.Px Go.Px.Scan Go.RowKit
set_option maxHeartbeats 1000000
set_option linter.unusedSimpArgs false

def wdV (x : Wd) : Value := .agg #[.int .i64 x.1, .string x.2.1, .int .i64 x.2.2]
def badV : Option Nat → Value | none => .int .i64 (-1) | some k => .int .i64 k

theorem each_ct {w : World} {b k B : Nat} {s : ByteArray} {g : FuncId} {cap : Array Value} {I : List Wd → World → Prop} {G : Nat → Prop}
    (hI : ∀ pre w w', I pre w → Chg (· = b) w w' → I pre w') (hGb : ¬ G b) (hGB : ∀ i, i < B → ¬ G i)
    (hg : ∀ pre x w, I pre w → pre ++ [x] <+: (allS s k).1 → Ct Tryd.prog g (wdV x :: cap.toList).toArray w fun v w' => v = .bool true ∧ I (pre ++ [x]) w' ∧ Chg G w w')
    (h : Sc w b s k) (hO : Ord w B) (hB : B ≤ b) (h0 : I [] w) :
    Ct Tryd.prog scan_scanner_each.id #[.pointer (some ⟨b, 0, none⟩), .func (.func g) #[] cap] w fun v w' => v = badV (allS s k).2 ∧ I (allS s k).1 w' ∧ Chg (fun i => i = b ∨ G i) w w' := by
  refine scan_scanner_each.ct fun R hR => ?_
  have hsz := h.sz
  have hb := h.lt
  unfold scan_scanner_each.run scan_scanner_each.b1
  refine scan_scanner_each.l5_intro _ _ _ _ (fun w1 => ∃ j pre, Sc w1 b s j ∧ I pre w1 ∧ Chg (fun i => i = b ∨ G i) w w1 ∧ Ord w1 B ∧ pre ++ (allS s j).1 = (allS s k).1 ∧ (allS s j).2 = (allS s k).2) (left s b)
    ⟨k, [], h, h0, Chg.refl _ _, hO, rfl, rfl⟩ ?_
  rintro w1 ⟨j, pre, h1, hi1, hc1, hO1, ha1, ha2⟩ C hC
  unfold scan_scanner_each.b6
  refine CALL_of (skip_ct h1) ?_
  rintro _ w2 ⟨rfl, h2, hc2⟩
  have hlt := h2.lt
  have hlt1 := h1.lt
  have hi2 := hI _ _ _ hi1 hc2
  have hO2 := hO1.chg hc2 (by omega) (fun i hi e => by omega)
  have hc2' := hc1.trans' hc2 (fun i _ e => Or.inl e)
  refine SPL_intro (fun h3 => ?_) (fun h3 => ?_) <;> simp at h3
  · refine CALL_of (next_ct h2 h3 hO2 hB) ?_
    rintro v w3 ⟨hn, hc3⟩
    have hi3 := hI _ _ _ hi2 hc3
    have hO3 := hO2.chg hc3 (by omega) (fun i hi e => by omega)
    have hc3' := hc2'.trans' hc3 (fun i _ e => Or.inl e)
    unfold nextIs at hn
    cases h4 : oneS s (skipS s false j) with
    | bad n =>
      rw [h4] at hn
      obtain ⟨⟨kd, t, at', rfl⟩, h5⟩ := hn
      rw [all_bad h3 h4] at ha1 ha2
      simp [go_sem, World.cell?_alloc_lt, h5.lt, h5.c1]
      have hc4 : Chg (· = b) w3 (w3.alloc (Obj.cells #[Value.int IntKind.i64 kd, Value.string t, Value.int IntKind.i64 at'] 36)) := (Chg.refl _ _).alloc _
      refine hR _ _ ⟨by rw [← ha2]; rfl, ?_, hc3'.trans' hc4 (fun i _ e => Or.inl e)⟩
      rw [← ha1]; simpa using hI _ _ _ hi3 hc4
    | word kd a e n =>
      rw [h4] at hn
      obtain ⟨rfl, h5⟩ := hn
      rw [all_word h3 h4] at ha1 ha2
      simp [go_sem]
      have hc4 : Chg (· = b) w3 (w3.alloc (Obj.cells #[Value.int IntKind.i64 kd, Value.string (s.extract a e), Value.int IntKind.i64 (skipS s false j)] 36)) := (Chg.refl _ _).alloc _
      have hc40 : Chg (fun _ => False) w3 (w3.alloc (Obj.cells #[Value.int IntKind.i64 kd, Value.string (s.extract a e), Value.int IntKind.i64 (skipS s false j)] 36)) := (Chg.refl _ _).alloc _
      have h6 := h5.chg hc40 id
      have hO4 := hO3.chg hc40 (by have := h5.lt; omega) (fun _ _ => id)
      have hi4 := hI _ _ _ hi3 hc4
      have hc4' := hc3'.trans' hc4 (fun i _ e => Or.inl e)
      generalize w3.alloc (Obj.cells #[Value.int IntKind.i64 kd, Value.string (s.extract a e), Value.int IntKind.i64 (skipS s false j)] 36) = w4 at *
      refine CALLY_of (hg pre ((kd : Int), s.extract a e, (skipS s false j : Int)) w4 hi4 ?_) ?_
      · rw [← ha1]; exact ⟨(allS s n).1, by simp⟩
      · rintro _ w5 ⟨rfl, hi5, hc5⟩
        simp [go_sem]
        have h7 := h6.chg hc5 hGb
        have hone := one_word h3 h4
        refine hC _ ⟨n, pre ++ [((kd : Int), s.extract a e, (skipS s false j : Int))], h7, hi5, hc4'.trans' hc5 (fun i _ e => Or.inr e), hO4.chg hc5 (by have := h6.lt; omega) hGB, ?_, ?_⟩ ?_
        · rw [← ha1]; simp
        · rw [← ha2]
        · rw [h7.left, h1.left]
          have := skip_ge s false j
          omega
  · unfold scan_scanner_each.b3
    rw [all_end (by omega)] at ha1 ha2
    refine hR _ _ ⟨by rw [← ha2]; rfl, ?_, hc2'⟩
    rw [← ha1]; simpa using hi2
end Go.Proofs.YtgjifldciinehaaDoor
