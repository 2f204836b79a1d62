/-
  awake: what the document fixes.
-/
import Derived.Test.YtgjifldciinehaaDoorLw1
set_option linter.unusedVariables false
namespace Go.Proofs.YtgjifldciinehaaDoor
open Go.Px Go.Px.Scan Go.RowKit
set_option maxHeartbeats 1000000
set_option linter.unusedSimpArgs false

theorem words_slice {w' : World} {base : Nat} {e : Nat} {sl : Value} {l : List Wd} (h : w'.ownsRow base e 3 sl l.length (l.flatMap encW)) (hl : l.length ≤ 100000) : (rSlice rWd).at1 w' w'.heap.size sl l :=
  slice_of_own (r := rWd) h (fun x _ => rfl) (fun x _ => rfl) (Nat.le_refl _)

def awT : ByteArray := ⟨#[37, 108, 101, 102, 116, 32, 39, 43, 39, 32, 59, 32, 35, 32, 120]⟩
def awL : List Wd := [(3, ⟨#[37, 108, 101, 102, 116]⟩, 0), (2, ⟨#[43]⟩, 6), (4, ⟨#[59]⟩, 10)]
theorem aw_words : wordsS awT = (awL, none) := by decide +kernel
theorem aw_name : nameS ⟨#[97]⟩ = true := by decide +kernel

/-- The three words' cells. -/
structure AwF (w : World) (b o : Nat) : Prop where
  lt : b < w.heap.size
  h00 : w.cell? ⟨b, o, none⟩ = some (.int .i64 3)
  h01 : w.cell? ⟨b, o + 1, none⟩ = some (.string ⟨#[37, 108, 101, 102, 116]⟩)
  h02 : w.cell? ⟨b, o + 2, none⟩ = some (.int .i64 0)
  h10 : w.cell? ⟨b, o + 3, none⟩ = some (.int .i64 2)
  h11 : w.cell? ⟨b, o + 3 + 1, none⟩ = some (.string ⟨#[43]⟩)
  h12 : w.cell? ⟨b, o + 3 + 2, none⟩ = some (.int .i64 6)
  h20 : w.cell? ⟨b, o + 6, none⟩ = some (.int .i64 4)
  h21 : w.cell? ⟨b, o + 6 + 1, none⟩ = some (.string ⟨#[59]⟩)
  h22 : w.cell? ⟨b, o + 6 + 2, none⟩ = some (.int .i64 10)

theorem aw_facts {w w1 : World} {v : Value} (hv : WordsR awT w v w1) : ∃ b o c, v = .tuple #[.slice (some ⟨b, o, none⟩) 3 c, mishV 0 0] ∧ 3 ≤ c ∧ AwF w1 b o := by
  unfold WordsR at hv
  rw [aw_words] at hv
  obtain ⟨l, hl⟩ : ∃ l, l = awL := ⟨_, rfl⟩
  rw [← hl] at hv
  have hlen : l.length = 3 := by rw [hl]; rfl
  have e0 : l[0]? = some (3, ⟨#[37, 108, 101, 102, 116]⟩, 0) := by rw [hl]; rfl
  have e1 : l[1]? = some (2, ⟨#[43]⟩, 6) := by rw [hl]; rfl
  have e2 : l[2]? = some (4, ⟨#[59]⟩, 10) := by rw [hl]; rfl
  clear hl
  obtain ⟨sl, rfl, ho⟩ := hv
  have hr := words_slice (l := l) ho (by omega)
  obtain ⟨A, c, rfl, hl1, hm1, _⟩ := slice_form hr
  obtain ⟨b, o, rfl, hb, h00, h01, h02⟩ := wds_at hr (i := 0) (by omega)
  obtain ⟨b', o', he, hb', h10, h11, h12⟩ := wds_at hr (i := 1) (by omega)
  cases he
  obtain ⟨b', o', he, hb'', h20, h21, h22⟩ := wds_at hr (i := 2) (by omega)
  cases he
  rw [List.getElem?_eq_getElem (by omega)] at e0 e1 e2
  injection e0 with e0
  injection e1 with e1
  injection e2 with e2
  rw [e0] at h00 h01 h02
  rw [e1] at h10 h11 h12
  rw [e2] at h20 h21 h22
  rw [hlen]
  exact ⟨b, o, c, rfl, by omega, hb, by simpa using h00, by simpa using h01, by simpa using h02, h10, h11, h12, h20, h21, h22⟩

theorem func_ne_nil {P : Program} {t : TypeId} {f : Fn} {a b : Array Value} {w : World} {ps rs v} (h : P.underlying t = some (.func ps rs v)) : (binOp BinOp.neq t (.func f a b) .nilFunc).run P w = .ok (.bool true) w := by
  simp only [binOp, Op.equal]
  rw [show Op.maxDepth = 9999 + 1 from rfl]
  unfold Op.equalIn
  simp [run_underlying, go_sem, h]

theorem awake_ct {w : World} {B : Nat} (hO : Ord w B) (hB : B ≤ w.heap.size) : Ct Tryd.prog law03_awake.id #[] w fun v w' => v = .bool true ∧ Chg (fun _ => False) w w' := by
  refine law03_awake.ct fun R hR => ?_
  unfold law03_awake.run law03_awake.b1
  refine CALL_of (Words_ct (s := awT) (by unfold maxLen; exact Nat.le_trans (show awT.size ≤ 15 from Nat.le_refl 15) (by omega)) hO hB) ?_
  intro v w1 h
  refine (aw_facts h.1).elim fun b h' => h'.elim fun o h' => h'.elim fun c h' => ?_
  rw [h'.1]
  have hc1 := h.2
  have h3 := h'.2.1
  have hA := h'.2.2
  have hlt := hA.lt
  have h00 := hA.h00
  have h01 := hA.h01
  have h02 := hA.h02
  have h10 := hA.h10
  have h11 := hA.h11
  have h12 := hA.h12
  have h20 := hA.h20
  have h21 := hA.h21
  have h22 := hA.h22
  clear hA h' h
  simp [go_sem, mishV, h00, h01, h02, h10, h11, h12, h20, h21, h22, World.cell?_alloc_lt, hlt]
  have hc2 : Chg (fun _ => False) w (w1.alloc (Obj.cells #[Value.int IntKind.i64 0, Value.int IntKind.i64 0, Value.slice none 0 0] 30)) := hc1.alloc _
  generalize w1.alloc (Obj.cells #[Value.int IntKind.i64 0, Value.int IntKind.i64 0, Value.slice none 0 0] 30) = w2 at hc2 ⊢
  refine CALL_of (Each_ct _ _) ?_
  intro v2 w3 h4
  have hc3 : Chg (fun _ => False) w w3 := by rw [← h4.2]; exact hc2.alloc _
  rw [h4.1]
  simp [go_sem]
  rw [func_ne_nil Tryd.underlying39]
  simp [go_sem]
  refine CALL_of (IsName_ct (hO.chg hc3 hB (fun _ _ => id)) (Nat.le_trans hB hc3.size)) ?_
  intro v3 w4 h5
  rw [h5.1, aw_name]
  exact hR _ _ ⟨rfl, hc3.trans h5.2⟩
end Go.Proofs.YtgjifldciinehaaDoor
