/-
  ScanSpread: made.
-/
import Derived.Test.YtgjifldciinehaaDoorLw9a
namespace Go.Proofs.YtgjifldciinehaaDoor
open Go.Px Go.Px.Scan Go.RowKit
set_option maxHeartbeats 20000000
set_option linter.unusedSimpArgs false

abbrev PieceT := Int × Int × Int × ByteArray
def pcV (p : PieceT) : Value := .agg #[.int .i64 p.1, .int .i64 p.2.1, .int .i64 p.2.2.1, .string p.2.2.2]

def MadeR (v : Value) : Prop := ∃ (s : ByteArray) (kd : Nat) (txt : ByteArray), v = .tuple #[.string s, .agg #[.int .i64 kd, .string txt, .int .i64 0]] ∧ OKW s kd txt ∧ s.size ≤ 18

theorem pick_is {c : Int} (hc : inI64 c) {n m : Nat} (hn : 0 < n) (hx : n ≤ maxLen) (h : pickN c n = m) (w : World) : Ct Tryd.prog law03_pick.id #[.int .i64 c, .int .i64 n] w fun v w' => v = .int .i64 m ∧ w = w' := by
  have := pick_ct hc hn hx w
  rw [h] at this
  exact this

theorem made_ct {p : PieceT} (h1 : inI64 p.1) (h2 : inI64 p.2.1) (hs : p.2.2.2.size ≤ maxLen) (w : World) : Ct Tryd.prog law03_made.id #[pcV p] w fun v w' => MadeR v ∧ Chg (fun _ => False) w w' := by
  refine law03_made.ct fun R hR => ?_
  obtain ⟨kd, n, gap, S⟩ := p
  simp only at h1 h2 hs
  have hm : pickN kd 4 = 0 ∨ pickN kd 4 = 1 ∨ pickN kd 4 = 2 ∨ pickN kd 4 = 3 := by have := pickN_lt kd (show 0 < 4 by omega); omega
  rcases hm with hm | hm | hm | hm
  · unfold law03_made.run law03_made.b1 pcV
    simp [go_sem]
    generalize hw1 : (w.alloc (Obj.cells #[Value.int IntKind.i64 kd, Value.int IntKind.i64 n, Value.int IntKind.i64 gap, Value.string S] 48)).alloc (Obj.cells #[Value.int IntKind.i64 0, Value.string { data := #[] }, Value.int IntKind.i64 0] 36) = w1
    have hc1 : Chg (fun _ => False) w w1 := by rw [← hw1]; exact ((Chg.refl _ _).alloc _).alloc _
    have c0 : w1.cell? ⟨w.heap.size, 0, none⟩ = some (.int .i64 kd) := by rw [← hw1, World.cell?_alloc_lt _ _ _ (by simp)]; exact new_cell _ _ _ rfl 0
    have c1 : w1.cell? ⟨w.heap.size, 1, none⟩ = some (.int .i64 n) := by rw [← hw1, World.cell?_alloc_lt _ _ _ (by simp)]; exact new_cell _ _ _ rfl 1
    have c3 : w1.cell? ⟨w.heap.size, 3, none⟩ = some (.string S) := by rw [← hw1, World.cell?_alloc_lt _ _ _ (by simp)]; exact new_cell _ _ _ rfl 3
    have ht : Tri w1 (w.heap.size + 1) 0 ⟨#[]⟩ 0 := by
      rw [← hw1]
      have e : w.heap.size + 1 = (w.alloc (Obj.cells #[Value.int IntKind.i64 kd, Value.int IntKind.i64 n, Value.int IntKind.i64 gap, Value.string S] 48)).heap.size := by simp
      rw [e]
      constructor <;> first | exact new_cell _ _ _ rfl _ | exact new_frozen _ _ _ rfl _
    have hs1 : w1.heap.size = w.heap.size + 2 := by rw [← hw1]; simp
    clear hw1
    -- the word is stored and told
    have fin : ∀ (w2 : World) (s txt : ByteArray) (k : Nat), Chg (fun _ => False) w1 w2 → OKW s k txt → s.size ≤ 18 → ∀ v, v = Value.tuple #[.string s, .agg #[.int .i64 k, .string txt, .int .i64 0]] →
        R (.returned v) (((w2.setCell ⟨w.heap.size + 1, 0, none⟩ (.int .i64 k)).setCell ⟨w.heap.size + 1, 1, none⟩ (.string txt)).setCell ⟨w.heap.size + 1, 2, none⟩ (.int .i64 0)) := by
      intro w2 s txt k hc h3 h4 v hv
      refine hR _ _ ⟨⟨s, k, txt, hv, h3, h4⟩, ?_⟩
      exact ((((hc1.trans hc)).setCell (p := ⟨w.heap.size + 1, 0, none⟩) (Or.inr (by simp)) _).setCell (p := ⟨w.heap.size + 1, 1, none⟩) (Or.inr (by simp)) _).setCell (p := ⟨w.heap.size + 1, 2, none⟩) (Or.inr (by simp)) _
    refine CALL_of (pick_is h1 (n := 4) (by omega) (by unfold maxLen; omega) hm w1) ?_
    rintro _ _ ⟨rfl, rfl⟩
    simp [go_sem, c3]
    refine CALL_of (letters_ct false hs w1) ?_
    rintro _ w2 ⟨rfl, hc2⟩
    have ht2 := ht.chg hc2 id
    simp [go_sem, ht2.c0, ht2.c1, ht2.c2, ht2.f0, ht2.f1, ht2.f2, World.cell?_setCell_other]
    exact fin w2 _ _ 1 hc2 (okw_name (letters_name S)) (by have := (letters_name S).2.1; omega) _ rfl
  · unfold law03_made.run law03_made.b1 pcV
    simp [go_sem]
    generalize hw1 : (w.alloc (Obj.cells #[Value.int IntKind.i64 kd, Value.int IntKind.i64 n, Value.int IntKind.i64 gap, Value.string S] 48)).alloc (Obj.cells #[Value.int IntKind.i64 0, Value.string { data := #[] }, Value.int IntKind.i64 0] 36) = w1
    have hc1 : Chg (fun _ => False) w w1 := by rw [← hw1]; exact ((Chg.refl _ _).alloc _).alloc _
    have c0 : w1.cell? ⟨w.heap.size, 0, none⟩ = some (.int .i64 kd) := by rw [← hw1, World.cell?_alloc_lt _ _ _ (by simp)]; exact new_cell _ _ _ rfl 0
    have c1 : w1.cell? ⟨w.heap.size, 1, none⟩ = some (.int .i64 n) := by rw [← hw1, World.cell?_alloc_lt _ _ _ (by simp)]; exact new_cell _ _ _ rfl 1
    have c3 : w1.cell? ⟨w.heap.size, 3, none⟩ = some (.string S) := by rw [← hw1, World.cell?_alloc_lt _ _ _ (by simp)]; exact new_cell _ _ _ rfl 3
    have ht : Tri w1 (w.heap.size + 1) 0 ⟨#[]⟩ 0 := by
      rw [← hw1]
      have e : w.heap.size + 1 = (w.alloc (Obj.cells #[Value.int IntKind.i64 kd, Value.int IntKind.i64 n, Value.int IntKind.i64 gap, Value.string S] 48)).heap.size := by simp
      rw [e]
      constructor <;> first | exact new_cell _ _ _ rfl _ | exact new_frozen _ _ _ rfl _
    have hs1 : w1.heap.size = w.heap.size + 2 := by rw [← hw1]; simp
    clear hw1
    -- the word is stored and told
    have fin : ∀ (w2 : World) (s txt : ByteArray) (k : Nat), Chg (fun _ => False) w1 w2 → OKW s k txt → s.size ≤ 18 → ∀ v, v = Value.tuple #[.string s, .agg #[.int .i64 k, .string txt, .int .i64 0]] →
        R (.returned v) (((w2.setCell ⟨w.heap.size + 1, 0, none⟩ (.int .i64 k)).setCell ⟨w.heap.size + 1, 1, none⟩ (.string txt)).setCell ⟨w.heap.size + 1, 2, none⟩ (.int .i64 0)) := by
      intro w2 s txt k hc h3 h4 v hv
      refine hR _ _ ⟨⟨s, k, txt, hv, h3, h4⟩, ?_⟩
      exact ((((hc1.trans hc)).setCell (p := ⟨w.heap.size + 1, 0, none⟩) (Or.inr (by simp)) _).setCell (p := ⟨w.heap.size + 1, 1, none⟩) (Or.inr (by simp)) _).setCell (p := ⟨w.heap.size + 1, 2, none⟩) (Or.inr (by simp)) _
    refine CALL_of (pick_is h1 (n := 4) (by omega) (by unfold maxLen; omega) hm w1) ?_
    rintro _ _ ⟨rfl, rfl⟩
    simp [go_sem, c3]
    refine CALL_of (letters_ct true hs w1) ?_
    rintro _ w2 ⟨rfl, hc2⟩
    have ht2 := ht.chg hc2 id
    have h16 := (letters_term S).2.1
    have e1 : ¬ 9223372036854775807 < 1 + (lettersS true S).size := by omega
    have e2 : ¬ 9223372036854775807 < 1 + (lettersS true S).size + 1 := by omega
    simp [go_sem, ht2.c0, ht2.c1, ht2.c2, ht2.f0, ht2.f1, ht2.f2, World.cell?_setCell_other, e1, e2]
    exact fin w2 _ _ 2 hc2 (okw_quo (letters_term S)) (by rw [quo_size]; omega) _ rfl
  · unfold law03_made.run law03_made.b1 pcV
    simp [go_sem]
    generalize hw1 : (w.alloc (Obj.cells #[Value.int IntKind.i64 kd, Value.int IntKind.i64 n, Value.int IntKind.i64 gap, Value.string S] 48)).alloc (Obj.cells #[Value.int IntKind.i64 0, Value.string { data := #[] }, Value.int IntKind.i64 0] 36) = w1
    have hc1 : Chg (fun _ => False) w w1 := by rw [← hw1]; exact ((Chg.refl _ _).alloc _).alloc _
    have c0 : w1.cell? ⟨w.heap.size, 0, none⟩ = some (.int .i64 kd) := by rw [← hw1, World.cell?_alloc_lt _ _ _ (by simp)]; exact new_cell _ _ _ rfl 0
    have c1 : w1.cell? ⟨w.heap.size, 1, none⟩ = some (.int .i64 n) := by rw [← hw1, World.cell?_alloc_lt _ _ _ (by simp)]; exact new_cell _ _ _ rfl 1
    have c3 : w1.cell? ⟨w.heap.size, 3, none⟩ = some (.string S) := by rw [← hw1, World.cell?_alloc_lt _ _ _ (by simp)]; exact new_cell _ _ _ rfl 3
    have ht : Tri w1 (w.heap.size + 1) 0 ⟨#[]⟩ 0 := by
      rw [← hw1]
      have e : w.heap.size + 1 = (w.alloc (Obj.cells #[Value.int IntKind.i64 kd, Value.int IntKind.i64 n, Value.int IntKind.i64 gap, Value.string S] 48)).heap.size := by simp
      rw [e]
      constructor <;> first | exact new_cell _ _ _ rfl _ | exact new_frozen _ _ _ rfl _
    have hs1 : w1.heap.size = w.heap.size + 2 := by rw [← hw1]; simp
    clear hw1
    -- the word is stored and told
    have fin : ∀ (w2 : World) (s txt : ByteArray) (k : Nat), Chg (fun _ => False) w1 w2 → OKW s k txt → s.size ≤ 18 → ∀ v, v = Value.tuple #[.string s, .agg #[.int .i64 k, .string txt, .int .i64 0]] →
        R (.returned v) (((w2.setCell ⟨w.heap.size + 1, 0, none⟩ (.int .i64 k)).setCell ⟨w.heap.size + 1, 1, none⟩ (.string txt)).setCell ⟨w.heap.size + 1, 2, none⟩ (.int .i64 0)) := by
      intro w2 s txt k hc h3 h4 v hv
      refine hR _ _ ⟨⟨s, k, txt, hv, h3, h4⟩, ?_⟩
      exact ((((hc1.trans hc)).setCell (p := ⟨w.heap.size + 1, 0, none⟩) (Or.inr (by simp)) _).setCell (p := ⟨w.heap.size + 1, 1, none⟩) (Or.inr (by simp)) _).setCell (p := ⟨w.heap.size + 1, 2, none⟩) (Or.inr (by simp)) _
    refine CALL_of (pick_is h1 (n := 4) (by omega) (by unfold maxLen; omega) hm w1) ?_
    rintro _ _ ⟨rfl, rfl⟩
    simp [go_sem, c1, World.cell?_alloc_lt, hs1]
    generalize hw2 : w1.alloc _ = w2
    have hc2 : Chg (fun _ => False) w1 w2 := by rw [← hw2]; exact (Chg.refl _ _).alloc _
    have ht2 := ht.chg hc2 id
    have g : ∀ i : Nat, w2.cell? ⟨w.heap.size + 2, i, none⟩ = (ordersR.map Value.string)[i]? := fun i => by
      rw [← hw2, new_cell _ _ _ (by omega) i, ← Array.getElem?_toList]; rfl
    clear hw2
    refine CALL_of (pick_ct h2 (n := 7) (by omega) (by unfold maxLen; omega) w2) ?_
    rintro _ _ ⟨rfl, rfl⟩
    obtain ⟨m, hm, hm4⟩ : ∃ m, m = pickN n 7 ∧ m < 7 := ⟨_, rfl, pickN_lt n (by omega)⟩
    rw [← hm]
    clear hm
    have hmi : (m : Int) < 7 := by omega
    have hol : ordersR.length = 7 := rfl
    have hgm : w2.cell? ⟨w.heap.size + 2, m, none⟩ = some (.string (ordersR[m]'(by omega))) := by
      rw [g m, List.getElem?_map, List.getElem?_eq_getElem (by omega)]; rfl
    have hok : ∀ o ∈ ordersR, OKW o 3 o ∧ o.size ≤ 18 := by
      intro o ho
      have hb : ∀ o ∈ ordersR, okwB o 3 = true ∧ o.size ≤ 18 := by decide +kernel
      exact ⟨okw_of (hb o ho).1, (hb o ho).2⟩
    have hom := hok _ (List.getElem_mem (l := ordersR) (n := m) (by omega))
    generalize (ordersR[m]'(by omega)) = o at hgm hom
    simp [go_sem, hm4, hmi, hgm, ht2.c0, ht2.c1, ht2.c2, ht2.f0, ht2.f1, ht2.f2, World.cell?_setCell_other]
    exact fin w2 _ _ 3 hc2 hom.1 hom.2 _ rfl
  · unfold law03_made.run law03_made.b1 pcV
    simp [go_sem]
    generalize hw1 : (w.alloc (Obj.cells #[Value.int IntKind.i64 kd, Value.int IntKind.i64 n, Value.int IntKind.i64 gap, Value.string S] 48)).alloc (Obj.cells #[Value.int IntKind.i64 0, Value.string { data := #[] }, Value.int IntKind.i64 0] 36) = w1
    have hc1 : Chg (fun _ => False) w w1 := by rw [← hw1]; exact ((Chg.refl _ _).alloc _).alloc _
    have c0 : w1.cell? ⟨w.heap.size, 0, none⟩ = some (.int .i64 kd) := by rw [← hw1, World.cell?_alloc_lt _ _ _ (by simp)]; exact new_cell _ _ _ rfl 0
    have c1 : w1.cell? ⟨w.heap.size, 1, none⟩ = some (.int .i64 n) := by rw [← hw1, World.cell?_alloc_lt _ _ _ (by simp)]; exact new_cell _ _ _ rfl 1
    have c3 : w1.cell? ⟨w.heap.size, 3, none⟩ = some (.string S) := by rw [← hw1, World.cell?_alloc_lt _ _ _ (by simp)]; exact new_cell _ _ _ rfl 3
    have ht : Tri w1 (w.heap.size + 1) 0 ⟨#[]⟩ 0 := by
      rw [← hw1]
      have e : w.heap.size + 1 = (w.alloc (Obj.cells #[Value.int IntKind.i64 kd, Value.int IntKind.i64 n, Value.int IntKind.i64 gap, Value.string S] 48)).heap.size := by simp
      rw [e]
      constructor <;> first | exact new_cell _ _ _ rfl _ | exact new_frozen _ _ _ rfl _
    have hs1 : w1.heap.size = w.heap.size + 2 := by rw [← hw1]; simp
    clear hw1
    -- the word is stored and told
    have fin : ∀ (w2 : World) (s txt : ByteArray) (k : Nat), Chg (fun _ => False) w1 w2 → OKW s k txt → s.size ≤ 18 → ∀ v, v = Value.tuple #[.string s, .agg #[.int .i64 k, .string txt, .int .i64 0]] →
        R (.returned v) (((w2.setCell ⟨w.heap.size + 1, 0, none⟩ (.int .i64 k)).setCell ⟨w.heap.size + 1, 1, none⟩ (.string txt)).setCell ⟨w.heap.size + 1, 2, none⟩ (.int .i64 0)) := by
      intro w2 s txt k hc h3 h4 v hv
      refine hR _ _ ⟨⟨s, k, txt, hv, h3, h4⟩, ?_⟩
      exact ((((hc1.trans hc)).setCell (p := ⟨w.heap.size + 1, 0, none⟩) (Or.inr (by simp)) _).setCell (p := ⟨w.heap.size + 1, 1, none⟩) (Or.inr (by simp)) _).setCell (p := ⟨w.heap.size + 1, 2, none⟩) (Or.inr (by simp)) _
    refine CALL_of (pick_is h1 (n := 4) (by omega) (by unfold maxLen; omega) hm w1) ?_
    rintro _ _ ⟨rfl, rfl⟩
    have hok : ∀ i, i < 3 → OKW (((⟨#[58, 124, 59]⟩ : ByteArray).extract i 3).extract 0 1) 4 (((⟨#[58, 124, 59]⟩ : ByteArray).extract i 3).extract 0 1) ∧ (((⟨#[58, 124, 59]⟩ : ByteArray).extract i 3).extract 0 1).size ≤ 18 := by
      intro i hi
      have hb : ∀ i : Fin 3, okwB (((⟨#[58, 124, 59]⟩ : ByteArray).extract i.val 3).extract 0 1) 4 = true ∧ (((⟨#[58, 124, 59]⟩ : ByteArray).extract i.val 3).extract 0 1).size ≤ 18 := by decide +kernel
      exact ⟨okw_of (hb ⟨i, hi⟩).1, (hb ⟨i, hi⟩).2⟩
    have hsz : (⟨#[58, 124, 59]⟩ : ByteArray).size = 3 := rfl
    generalize (⟨#[58, 124, 59]⟩ : ByteArray) = sg at hok hsz ⊢
    simp [go_sem, c1, c3]
    refine CALL_of (pick_ct h2 (n := 3) (by omega) (by unfold maxLen; omega) w1) ?_
    rintro _ _ ⟨rfl, rfl⟩
    obtain ⟨m, hm, hm4⟩ : ∃ m, m = pickN n 3 ∧ m < 3 := ⟨_, rfl, pickN_lt n (by omega)⟩
    rw [← hm]
    clear hm
    have hom := hok m hm4
    rw [RUN_eq, slice_i Tryd.underlying9 (by omega), RES_ok, hsz]
    have hsz2 : (sg.extract m 3).size = 3 - m := by rw [extract_size (by omega) (by omega)]
    generalize sg.extract m 3 = sh at hom hsz2 ⊢
    have hj := slice_j (P := Tryd.prog) (w := w1) (k := .i64) Tryd.underlying9 (s := sh) (j := 1) (by omega)
    rw [RUN_eq, show (Value.int IntKind.i64 1) = Value.int IntKind.i64 ((1 : Nat) : Int) from rfl, hj, RES_ok]
    generalize sh.extract 0 1 = o at hom ⊢
    simp [go_sem, ht.c0, ht.c1, ht.c2, ht.f0, ht.f1, ht.f2, World.cell?_setCell_other]
    exact fin w1 _ _ 4 (Chg.refl _ _) hom.1 hom.2 _ rfl
end Go.Proofs.YtgjifldciinehaaDoor
