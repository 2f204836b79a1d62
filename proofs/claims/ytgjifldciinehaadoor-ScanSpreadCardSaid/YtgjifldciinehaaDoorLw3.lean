/-
  ScanReads: the law's contract.
-/
import Derived.Test.YtgjifldciinehaaDoorLw2
namespace Go.Px
/-- Cells that may be written. -/
structure Room (w : World) (g n : Nat) : Prop where
  has : ∀ j, j < n → ∃ v, w.cell? ⟨g, j, none⟩ = some v
  fr : ∀ j, j < n → w.frozen? ⟨g, j, none⟩ = false
theorem Room.set {w : World} {g n : Nat} (h : Room w g n) {a : Addr} (u : Value) : Room (w.setCell a u) g n := by
  refine ⟨fun j hj => ?_, fun j hj => by rw [World.frozen?_setCell]; exact h.fr j hj⟩
  obtain ⟨v, hv⟩ := h.has j hj
  by_cases ha : a = ⟨g, j, none⟩
  · subst ha; exact ⟨u, World.cell?_setCell_same' _ _ _ (by rw [hv]; rfl)⟩
  · exact ⟨v, by rw [World.cell?_setCell_other]; exact hv; exact ha⟩
theorem Room.chg {F : Nat → Prop} {w w' : World} {g n : Nat} (h : Room w g n) (hc : Chg F w w') (hF : ¬ F g) : Room w' g n := by
  refine ⟨fun j hj => ?_, fun j hj => ?_⟩
  · obtain ⟨v, hv⟩ := h.has j hj
    exact ⟨v, hc.at hv hF⟩
  · obtain ⟨v, hv⟩ := h.has j hj
    exact (hc.frozen (World.block_lt_of_cell? _ _ hv) hF).trans (h.fr j hj)
theorem room_of_own {w : World} {base e size : Nat} {g n cap : Nat} {xs : List Value} (h : w.ownsRow base e size (.slice (some ⟨g, 0, none⟩) n cap) n xs) : Room w g (n * size) := by
  rcases h.2 with ⟨h1, _⟩ | ⟨g', cap', cur, he, hb, hg, hnc, hm, hcs, _⟩
  · cases h1
  · cases he
    have hle : n * size ≤ cap * size := Nat.mul_le_mul_right _ hnc
    refine ⟨fun j hj => ?_, fun j hj => ?_⟩
    · refine ⟨cur[j]'(by omega), ?_⟩
      simp [World.cell?, hg]
    · simp [World.frozen?, hg]
/-- The block of what is owned, or that nothing is. -/
theorem own_form {w : World} {base e size : Nat} {v : Value} {n : Nat} {xs : List Value} (h : w.ownsRow base e size v n xs) : (v = .slice none 0 0 ∧ n = 0) ∨ ∃ g cap, v = .slice (some ⟨g, 0, none⟩) n cap ∧ base ≤ g ∧ g < w.heap.size ∧ n ≤ cap ∧ cap ≤ maxLen ∧ Room w g (n * size) := by
  have h0 := h
  rcases h.2 with ⟨h1, h2⟩ | ⟨g, cap, cur, he, hb, hg, hnc, hm, _⟩
  · exact Or.inl ⟨h1, h2⟩
  · refine Or.inr ⟨g, cap, he, hb, (Array.getElem?_eq_some_iff.1 hg).1, hnc, hm, ?_⟩
    rw [he] at h0; exact room_of_own h0
end Go.Px

namespace Go.Proofs.YtgjifldciinehaaDoor
open Go.Px Go.Px.Scan Go.RowKit
set_option maxHeartbeats 1000000
set_option linter.unusedSimpArgs false

def mi : Option Nat → Value | some k => mishV 10 k | none => mishV 0 0
/-- The words that are told: none where a place is bad. -/
def wl (s : ByteArray) : List Wd := match (wordsS s).2 with | some _ => [] | none => (wordsS s).1

theorem wl_len (s : ByteArray) : (wl s).length ≤ 8192 := by
  unfold wl
  split
  · simp
  · unfold wordsS
    split
    · simp
    · have := all_len s 0 (Nat.zero_le _); omega

theorem words_own {s : ByteArray} {w : World} {v : Value} {w' : World} (h : WordsR s w v w') : ∃ sl, v = .tuple #[sl, mi (wordsS s).2] ∧ w'.ownsRow w.heap.size 36 3 sl (wl s).length ((wl s).flatMap encW) := by
  unfold WordsR at h
  unfold wl
  split at h
  · rename_i k hk
    rw [hk]
    exact ⟨_, h, World.ownsRow_nil _ _ _ _⟩
  · rename_i hk
    rw [hk]
    exact h

/-- Words of a text, whole. -/
theorem Words2_ct {w : World} {B : Nat} {s : ByteArray} (hs : s.size ≤ maxLen) (hO : Ord w B) (hB : B ≤ w.heap.size) :
    Ct Tryd.prog scan_Words.id #[.string s] w fun v w' => ∃ sl, v = .tuple #[sl, mi (wordsS s).2] ∧ w'.ownsRow w.heap.size 36 3 sl (wl s).length ((wl s).flatMap encW) ∧ (rSlice rWd).at1 w' w'.heap.size sl (wl s) ∧ Chg (fun _ => False) w w' :=
  (Words_ct hs hO hB).mono fun v w' h => by
    obtain ⟨sl, h1, h2⟩ := words_own h.1
    exact ⟨sl, h1, h2, words_slice h2 (by have := wl_len s; omega), h.2⟩

theorem bad2_ct (w : World) (o : Option Nat) : Ct Tryd.prog law03_bad.id #[mi o, badV o] w fun v w' => v = .bool true ∧ Chg (fun _ => False) w w' := by
  cases o with
  | none => exact bad_ct w none
  | some k => exact bad_ct w (some k)

/-- The document's words, none where a place is bad. -/
theorem all_rep {s : ByteArray} {base : Nat} {sl : Value} {w : World} (h : w.ownsRow base 42 3 sl (wordsS s).1.length ((wordsS s).1.flatMap encW)) : (rSlice rWd).at1 w w.heap.size sl (wordsS s).1 := by
  refine words_slice h ?_
  unfold wordsS
  split
  · simp
  · have := all_len s 0 (Nat.zero_le _); omega

theorem nil_rep {w : World} {B : Nat} : (rSlice rWd).at1 w B (.slice none 0 0) [] := ⟨none, 0, rfl, by simp, by simp [maxLen], trivial, fun h => by simp at h⟩

theorem mi_form (o : Option Nat) : ∃ a b, mi o = mishV a b := by
  cases o with
  | none => exact ⟨_, _, rfl⟩
  | some k => exact ⟨_, _, rfl⟩
theorem bad3_ct (w : World) {o : Option Nat} {a b : Int} (h : mi o = mishV a b) : Ct Tryd.prog law03_bad.id #[.agg #[.int .i64 a, .int .i64 b, .slice none 0 0], badV o] w fun v w' => v = .bool true ∧ Chg (fun _ => False) w w' := by
  have := bad2_ct w o
  rw [h] at this
  exact this

theorem ScanReads_ct {w : World} {B : Nat} {s : ByteArray} (hs : s.size ≤ maxLen) (hO : Ord w B) (hB : B ≤ w.heap.size) : Ct Tryd.prog law03_ScanReads.id #[.string s] w fun v w' => v = .bool true ∧ Chg (fun _ => False) w w' := by
  refine law03_ScanReads.ct fun R hR => ?_
  unfold law03_ScanReads.run law03_ScanReads.b1
  refine CALL_of (awake_ct hO hB) ?_
  intro v w1 h; rw [h.1]; have hc1 := h.2; clear h
  simp [go_sem]
  have hs1 := hc1.size
  refine CALL_of (ref_All_ct hs w1) ?_
  intro v w2 h; refine h.1.elim fun r hr => ?_; have hc2 := h.2; rw [hr.1]; have hr := all_rep hr.2; clear h
  have hs2 := hc2.size
  -- the rest, with the document's words
  have tail : ∀ rv w2, Chg (fun _ => False) w w2 → (rSlice rWd).at1 w2 w2.heap.size rv (wl s) → law03_ScanReads.b2 R (.string s) rv (badV (wordsS s).2) w2 := by
    intro rv w2 hc2 hr
    have hs2 := hc2.size
    unfold law03_ScanReads.b2
    refine CALL_of (Words2_ct hs (hO.chg hc2 hB (fun _ _ => id)) (by omega)) ?_
    intro v w3 h
    refine h.elim fun sl h => ?_
    rw [h.1]
    have hown := h.2.1
    have hl := h.2.2.1
    have hc3 := h.2.2.2
    clear h
    refine (mi_form (wordsS s).2).elim fun ma h => h.elim fun mb hm => ?_
    rw [hm]
    simp [go_sem, mishV]
    have hc4 : Chg (fun _ => False) w3 (w3.alloc (Obj.cells #[Value.int IntKind.i64 ma, Value.int IntKind.i64 mb, Value.slice none 0 0] 30)) := (Chg.refl _ _).alloc _
    have hm0 : (w3.alloc (Obj.cells #[Value.int IntKind.i64 ma, Value.int IntKind.i64 mb, Value.slice none 0 0] 30)).cell? ⟨w3.heap.size, 0, none⟩ = some (.int .i64 ma) := new_cell _ _ _ rfl 0
    have hm1 : (w3.alloc (Obj.cells #[Value.int IntKind.i64 ma, Value.int IntKind.i64 mb, Value.slice none 0 0] 30)).cell? ⟨w3.heap.size, 1, none⟩ = some (.int .i64 mb) := new_cell _ _ _ rfl 1
    have hm2 : (w3.alloc (Obj.cells #[Value.int IntKind.i64 ma, Value.int IntKind.i64 mb, Value.slice none 0 0] 30)).cell? ⟨w3.heap.size, 2, none⟩ = some (.slice none 0 0) := new_cell _ _ _ rfl 2
    generalize w3.alloc (Obj.cells #[Value.int IntKind.i64 ma, Value.int IntKind.i64 mb, Value.slice none 0 0] 30) = w4 at hc4 hm0 hm1 hm2 ⊢
    have hs3 := hc3.size
    have hs4 := hc4.size
    unfold law03_ScanReads.b10
    simp [go_sem, hm0, hm1, hm2]
    refine CALL_of (bad3_ct w4 hm) ?_
    intro v w5 h
    rw [h.1]
    have hc5 := h.2
    have hs5 := hc5.size
    clear h
    simp [go_sem]
    have hr5 := Rep.up (Rep.below hr (((hc3.trans hc4).trans hc5).below (Nat.le_refl _) fun _ _ => id)) (Nat.le_trans hs3 (Nat.le_trans hs4 hs5))
    have hl5 := Rep.up (Rep.below hl ((hc4.trans hc5).below (Nat.le_refl _) fun _ _ => id)) (Nat.le_trans hs4 hs5)
    refine CALL_of (are_ct hl5 hr5 (Nat.le_refl _)) ?_
    intro v w6 h
    rw [h.1]
    have hc6 := h.2
    have hs6 := hc6.size
    clear h
    simp [go_sem]
    unfold law03_ScanReads.b11
    simp [go_sem]
    have hc26 : Chg (fun _ => False) w2 w6 := ((hc3.trans hc4).trans hc5).trans hc6
    have hr6 := Rep.up (Rep.below hr (hc26.below (Nat.le_refl _) fun _ _ => id)) hc26.size
    have hO2 := hO.chg hc2 hB (fun _ _ => id)
    -- once more
    have last : ∀ w7, Chg (fun i => w2.heap.size ≤ i) w2 w7 → law03_ScanReads.b5 R (.string s) rv (badV (wordsS s).2) w7 := by
      intro w7 hc7
      have hc7' : Chg (fun _ => False) w2 w7 := hc7.mono fun i hi h => by omega
      have hs7 := hc7.size
      unfold law03_ScanReads.b5
      refine CALL_of (Words2_ct hs (hO2.chg hc7' (by omega) (fun _ _ => id)) (by omega)) ?_
      intro v w8 h
      refine h.elim fun sl h => ?_
      rw [h.1, hm]
      have hl := h.2.2.1
      have hc8 := h.2.2.2
      have hs8 := hc8.size
      clear h
      simp [go_sem, mishV]
      have hc9 : Chg (fun _ => False) w8 (w8.alloc (Obj.cells #[Value.int IntKind.i64 ma, Value.int IntKind.i64 mb, Value.slice none 0 0] 30)) := (Chg.refl _ _).alloc _
      generalize w8.alloc (Obj.cells #[Value.int IntKind.i64 ma, Value.int IntKind.i64 mb, Value.slice none 0 0] 30) = w9 at hc9 ⊢
      have hs9 := hc9.size
      refine CALL_of (bad3_ct w9 hm) ?_
      intro v w10 h
      rw [h.1]
      have hc10 := h.2
      have hs10 := hc10.size
      clear h
      simp [go_sem]
      have hr7 := Rep.up (Rep.below hr (((hc7'.trans hc8).trans (hc9.trans hc10)).below (Nat.le_refl _) fun _ _ => id)) (Nat.le_trans hs7 (Nat.le_trans hs8 (Nat.le_trans hs9 hs10)))
      have hl7 := Rep.up (Rep.below hl ((hc9.trans hc10).below (Nat.le_refl _) fun _ _ => id)) (Nat.le_trans hs9 hs10)
      refine CALL_of (are_ct hl7 hr7 (Nat.le_refl _)) ?_
      intro v w11 h
      rw [h.1]
      exact hR _ _ ⟨rfl, (hc2.trans ((hc7'.trans hc8).trans (hc9.trans hc10))).trans h.2⟩
    unfold law03_ScanReads.b6
    refine (own_form hown).elim (fun h => ?_) fun h => ?_
    · rw [h.1]
      refine law03_ScanReads.l8_intro _ _ _ _ _ _ _ (fun x w7 => x = .int .i64 0 ∧ w7 = w6) (fun _ _ => 0) ⟨rfl, rfl⟩ ?_
      rintro _ w7 ⟨rfl, rfl⟩ C hC
      unfold law03_ScanReads.b9
      simp [go_sem]
      exact last _ (hc26.mono fun _ _ h => h.elim)
    · refine h.elim fun g h => h.elim fun cap h => ?_
      rw [h.1]
      have hg := h.2.1
      have hcap := h.2.2.2.1
      have hcm := h.2.2.2.2.1
      have hroom := h.2.2.2.2.2.chg ((hc4.trans hc5).trans hc6) id
      clear h
      refine law03_ScanReads.l8_intro _ _ _ _ _ _ _ (fun x w7 => ∃ k : Nat, x = .int .i64 k ∧ k ≤ (wl s).length ∧ Chg (fun i => w2.heap.size ≤ i) w2 w7 ∧ Room w7 g ((wl s).length * 3)) (fun x _ => (wl s).length - iv x) ⟨0, rfl, by omega, hc26.mono fun _ _ h => h.elim, hroom⟩ ?_
      rintro _ w7 ⟨k, rfl, hk, hc7, hrm⟩ C hC
      unfold law03_ScanReads.b9
      simp [go_sem]
      refine SPL_intro (fun h => ?_) (fun h => ?_)
      · have hka : k < (wl s).length := by simpa using h
        have wk := wrap_succ hka (Nat.le_trans hcap hcm)
        have f0 := hrm.fr (k * 3) (by omega)
        have f1 := hrm.fr (k * 3 + 1) (by omega)
        have f2 := hrm.fr (k * 3 + 2) (by omega)
        refine (hrm.has (k * 3) (by omega)).elim fun u0 c0 => (hrm.has (k * 3 + 1) (by omega)).elim fun u1 c1 => (hrm.has (k * 3 + 2) (by omega)).elim fun u2 c2 => ?_
        simp [go_sem, hka, f0, f1, f2, c0, c1, c2, wk, World.cell?_setCell_other]
        refine hC _ _ ⟨k + 1, by simp, by omega, ?_, ((hrm.set _).set _).set _⟩ (by simp [iv]; omega)
        exact ((hc7.setCell (Or.inl hg) _).setCell (Or.inl hg) _).setCell (Or.inl hg) _
      · exact last _ hc7
  cases ho : (wordsS s).2 with
  | none =>
    have := tail r w2 (hc1.trans hc2) (by unfold wl; rw [ho]; exact hr)
    rw [ho] at this
    simp [go_sem, badV]
    exact this
  | some k =>
    have := tail (.slice none 0 0) w2 (hc1.trans hc2) (by unfold wl; rw [ho]; exact nil_rep)
    rw [ho] at this
    simp [go_sem, badV]
    exact this
end Go.Proofs.YtgjifldciinehaaDoor
