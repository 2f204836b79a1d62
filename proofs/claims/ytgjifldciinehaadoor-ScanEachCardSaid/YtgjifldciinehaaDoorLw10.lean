/-
  ScanEach.
-/
import Derived.Test.YtgjifldciinehaaDoorLw8
namespace Go.Proofs.YtgjifldciinehaaDoor
open Go.Px Go.Px.Scan Go.RowKit Go.Shelf
set_option maxHeartbeats 4000000
set_option linter.unusedSimpArgs false
attribute [local go_sem] Oper.semAt_some func_eq_nil

theorem short_words (s : ByteArray) : (allS (short s) 0).1 = (wordsS s).1 := by
  unfold short
  split
  · rename_i h
    rw [big_words h]
    decide +kernel
  · rename_i h
    rw [small_words h]

theorem each_start {s : ByteArray} {w w1 w2 : World} {A : Option Addr} {c kk : Nat} {L : List Wd} (hc1 : Chg (fun _ => False) (w.alloc (.cells #[.bool false] 4)) w1) (hc2 : Chg (fun _ => False) w1 w2) (hr : (rSlice rWd).at1 w2 w2.heap.size (.slice A L.length c) L) {W0 : World}
    (hW : ((((w2.alloc (.cells #[.slice A L.length c] 23)).alloc (.cells #[.string (short s)] 9)).alloc (.cells #[.int .i64 kk] 3)).alloc (.cells #[.int .i64 0] 3)) = W0) :
    EachI w W0 w2.heap.size w.heap.size w2.heap.size (w2.heap.size + 1 + 1) (w2.heap.size + 1 + 1 + 1) A c L kk 0 (short s) ∧ W0.cell? ⟨w2.heap.size + 1, 0, none⟩ = some (.string (short s)) ∧ W0.heap.size = w2.heap.size + 4 ∧ w.heap.size < w2.heap.size := by
  subst hW
  have hs1 := hc1.size
  have hs2 := hc2.size
  simp at hs1
  have h12 := hc1.trans hc2
  have hc3 : Chg (fun _ => False) w2 ((((w2.alloc (.cells #[.slice A L.length c] 23)).alloc (.cells #[.string (short s)] 9)).alloc (.cells #[.int .i64 kk] 3)).alloc (.cells #[.int .i64 0] 3)) := ((((Chg.refl _ w2).alloc _).alloc _).alloc _).alloc _
  have h13 := h12.trans hc3
  have a4 : (w.alloc (.cells #[.bool false] 4)).cell? ⟨w.heap.size, 0, none⟩ = some (.bool false) := new_cell _ _ _ rfl 0
  have b4 : (w.alloc (.cells #[.bool false] 4)).frozen? ⟨w.heap.size, 0, none⟩ = false := new_frozen _ _ _ rfl 0
  refine ⟨⟨h13.at a4 id, (h13.frozen (p := ⟨w.heap.size, 0, none⟩) (by simp) id).trans b4, ?_, ?_, ?_, ?_, Rep.below hr (hc3.below (Nat.le_refl _) fun _ _ => id), (((Chg.refl (fun _ => False) w).alloc _).trans h12).trans hc3, ?_⟩, ?_, by simp, by omega⟩
  · rw [World.cell?_alloc_lt _ _ _ (by simp; omega), World.cell?_alloc_lt _ _ _ (by simp; omega), World.cell?_alloc_lt _ _ _ (by simp)]
    exact new_cell _ _ _ rfl 0
  · rw [World.cell?_alloc_lt _ _ _ (by simp)]
    exact new_cell _ _ _ (by simp) 0
  · exact new_cell _ _ _ (by simp) 0
  · exact new_frozen _ _ _ (by simp) 0
  · rw [World.cell?_alloc_lt _ _ _ (by simp), World.cell?_alloc_lt _ _ _ (by simp)]
    exact new_cell _ _ _ (by simp) 0
  · rw [World.cell?_alloc_lt _ _ _ (by simp), World.cell?_alloc_lt _ _ _ (by simp)]
    exact new_cell _ _ _ (by simp) 0

theorem each_last {a : Act} {w W : World} (h4 : a.tmps.getD 4 undef = .pointer (some ⟨w.heap.size, 0, none⟩)) (hc : W.cell? ⟨w.heap.size, 0, none⟩ = some (.bool true)) : (results Tryd.f4 a.tmps).run Tryd.prog W = .ok (.bool true) W := by
  have hr : Tryd.f4.results = #[.cell 4 4] := rfl
  have h4' : a.tmps[4]?.getD undef = .pointer (some ⟨w.heap.size, 0, none⟩) := by rw [← Array.getD_eq_getD_getElem?]; exact h4
  simp [results, hr, go_sem, asAddr, h4', hc]
theorem each_end1 {a : Act} {w W : World} {D2 : Nat} (hd : a.defers = [{ target := Target.collected D2, args := #[] }]) (h4 : a.tmps.getD 4 undef = .pointer (some ⟨w.heap.size, 0, none⟩)) (hcw : Chg (fun _ => False) w W) (hc : W.cell? ⟨w.heap.size, 0, none⟩ = some (.bool true))
    (hE2 : W.heap[D2]? = some (.deferred (some []))) (h2 : w.heap.size < D2) : bodyPostM Fence.wide 3 Tryd.prog Tryd.f4 (RT fun v w' => v = .bool true ∧ Chg (fun _ => False) w w') Exit.ret a W := by
  have hp : Chg (· = D2) W (W.putObj D2 (.deferred none)) := chg_putObj _ rfl
  show LeavesInM _ _ _ _ a.tmps _ a.defers _ W
  rw [hd]
  refine ⟨by simp, .inl ⟨_, _, rfl, run_takeDeferred hE2, ?_⟩⟩
  exact ⟨.bool true, each_last h4 (hp.at hc (by simp; omega)), rfl, hcw.trans' hp (fun i hi h => by omega)⟩
theorem each_end2 {a : Act} {w W : World} {D2 D : Nat} (hd : a.defers = [{ target := Target.collected D2, args := #[] }, { target := Target.collected D, args := #[] }]) (h4 : a.tmps.getD 4 undef = .pointer (some ⟨w.heap.size, 0, none⟩)) (hcw : Chg (fun _ => False) w W) (hc : W.cell? ⟨w.heap.size, 0, none⟩ = some (.bool true))
    (hE2 : W.heap[D2]? = some (.deferred (some []))) (hE1 : W.heap[D]? = some (.deferred (some []))) (h2 : w.heap.size < D2) (h1 : w.heap.size < D) (h12 : D ≠ D2) : bodyPostM Fence.wide 3 Tryd.prog Tryd.f4 (RT fun v w' => v = .bool true ∧ Chg (fun _ => False) w w') Exit.ret a W := by
  have hp : Chg (· = D2) W (W.putObj D2 (.deferred none)) := chg_putObj _ rfl
  have hE1' := (hp.block D (Array.getElem?_eq_some_iff.1 hE1).1 h12).trans hE1
  have hp' : Chg (· = D) (W.putObj D2 (.deferred none)) ((W.putObj D2 (.deferred none)).putObj D (.deferred none)) := chg_putObj _ rfl
  show LeavesInM _ _ _ _ a.tmps _ a.defers _ W
  rw [hd]
  refine ⟨by simp, .inl ⟨_, _, rfl, run_takeDeferred hE2, ?_⟩⟩
  refine ⟨by simp, .inl ⟨_, _, rfl, run_takeDeferred hE1', ?_⟩⟩
  exact ⟨.bool true, each_last h4 (hp'.at (hp.at hc (by simp; omega)) (by simp; omega)), rfl, (hcw.trans' hp (fun i hi h => by omega)).trans' hp' (fun i hi h => by omega)⟩
theorem are_calls {w : World} {B : Nat} {va vb : Value} {l : List Wd} (ha : (rSlice rWd).at1 w w.heap.size va l) (hb : (rSlice rWd).at1 w B vb l) (hB : B ≤ w.heap.size) : CallsIn Fence.wide 2 Tryd.prog 12 #[va, vb] w fun e w' => e = .returned (.bool true) ∧ Chg (fun _ => False) w w' :=
  callsIn_wide.2 ((are_ct ha (Rep.up hb hB) (Nat.le_refl _)).2.mono fun e w' he => by
    cases e with
    | returned v => exact ⟨by rw [he.1], he.2⟩
    | _ => exact he.elim)

theorem ScanEach_in {s : ByteArray} {k : Int} {w : World} {B : Nat} (hs : s.size ≤ maxLen) (hk : inI64 k) (hO : Ord w B) (hB : B ≤ w.heap.size) :
    CallsIn Fence.wide 3 Tryd.prog 4 #[.string s, .int .i64 k] w (RT fun v w' => v = .bool true ∧ Chg (fun _ => False) w w') := by
  obtain ⟨L, hL⟩ : ∃ L, (wordsS s).1 = L := ⟨_, rfl⟩
  have hlen : L.length ≤ 8192 := by
    rw [← hL]; unfold wordsS; split
    · simp
    · have := all_len s 0 (Nat.zero_le _); omega
  have hwr : IntKind.i64.wrap ((L.length : Int) + 1) = (L.length : Int) + 1 := IntWalk.i64_in _ (by omega)
  refine callsIn_of_wp_marks Tryd.func4 rfl trivial ?_ rfl
  simp only [Tryd.ntmps4, List.size_toArray, List.length_cons, List.length_nil, Nat.reduceAdd, Nat.reduceSub, Array.replicate_succ, Array.replicate_zero, List.push_toArray, List.append_toArray, List.nil_append, List.cons_append]
  gi_wp2_with (refine ⟨trivial, ?_⟩; first
    | (gi_at_call 8; refine (awake_calls (hO.chg (F := fun _ => False) ((Chg.refl _ _).alloc _) hB (fun _ _ => id)) (by simp; omega)).mono ?_; rintro e w1 ⟨rfl, hc1⟩)
    | (gi_at_call 9; refine (all_calls hL hs _).mono ?_; rintro e w2 ⟨A, c, z, rfl, hle, hr, hc2⟩)
    | (gi_at_call 13; refine (Each_calls s _).mono ?_; rintro e w3 ⟨rfl, rfl⟩)
    | (gi_at_call 14; refine (pick_calls (n := L.length) hk (by unfold maxLen; omega) _).mono ?_; rintro e w3 ⟨rfl, rfl⟩)
    | skip)
  · rename_i K0 hgo hpos
    generalize hkk : pickN k (L.length + 1) = kk at hpos ⊢
    have hkl : kk < L.length + 1 := by rw [← hkk]; exact pickN_lt k (Nat.succ_pos _)
    generalize hW0 : ((((w2.alloc (.cells #[.slice A L.length c] 23)).alloc (.cells #[.string (short s)] 9)).alloc (.cells #[.int .i64 kk] 3)).alloc (.cells #[.int .i64 0] 3)) = W0
    obtain ⟨hI0, hstr, hsz, hlt⟩ := each_start hc1 hc2 hr hW0
    clear hW0
    have hO0 := hO.chg hI0.chg hB fun _ _ => id
    have hBw : B ≤ w2.heap.size := by omega
    refine wpIn_wide.2 (rangeC (gf := 24) (lb := #[.pointer (some ⟨w2.heap.size + 1, 0, none⟩)]) rfl scan_Each_1.enters
      (Each1_seq hstr short_le hO0 (by omega)) (by omega) (fun _ => rfl)
      (fun pre W => pre.length < kk ∧ EachI w W w2.heap.size w.heap.size w2.heap.size (w2.heap.size + 1 + 1) (w2.heap.size + 1 + 1 + 1) A c L kk pre.length (short s))
      (fun c' pre W => c' = .exit 0 ∧ EachI w W w2.heap.size w.heap.size w2.heap.size (w2.heap.size + 1 + 1) (w2.heap.size + 1 + 1 + 1) A c L kk kk (short s))
      ?hI ?hIx ⟨hpos, hI0⟩
      (fun pre x a₁ W => ∃ q, a₁.defers = [] ∧ a₁.tmps.size = 91 ∧ a₁.tmps.getD 4 undef = .pointer (some ⟨w.heap.size, 0, none⟩) ∧ a₁.tmps.getD 5 undef = .pointer (some ⟨w2.heap.size, 0, none⟩) ∧ a₁.tmps.getD 8 undef = .pointer (some ⟨w2.heap.size + 1 + 1, 0, none⟩) ∧
        a₁.tmps.getD 9 undef = .pointer (some ⟨w2.heap.size + 1 + 1 + 1, 0, none⟩) ∧ a₁.tmps.getD 10 undef = .pointer (some ⟨q, 0, none⟩) ∧ W0.heap.size + 3 ≤ q ∧ Tri W q x.1 x.2.1 x.2.2 ∧ pre.length < kk ∧ EachI w W w2.heap.size w.heap.size w2.heap.size (w2.heap.size + 1 + 1) (w2.heap.size + 1 + 1 + 1) A c L kk pre.length (short s))
      ?hA ?assign ?body ?done ?stop)
    case hI =>
      rintro pre X X' hX ⟨h1, h2⟩ hc
      exact ⟨h1, h2.keep hc (by omega) (fun i hi => by omega) (by omega) (by omega) (by omega) (by omega) (fun i hi => by omega) (by omega)⟩
    case hIx =>
      rintro c' pre X X' hX ⟨h1, h2⟩ hc
      exact ⟨h1, h2.keep hc (by omega) (fun i hi => by omega) (by omega) (by omega) (by omega) (by omega) (fun i hi => by omega) (by omega)⟩
    case hA =>
      rintro pre x a X X' hX ⟨q, e1, e2, e3, e4, e5, e6, e7, e8, e9, h1, h2⟩ hc
      exact ⟨q, e1, e2, e3, e4, e5, e6, e7, e8, e9.chg hc (by omega), h1, h2.keep hc (by omega) (fun i hi => by omega) (by omega) (by omega) (by omega) (by omega) (fun i hi => by omega) (by omega)⟩
    case assign =>
      rintro l pre ⟨kd, t, at'⟩ W K hsW ⟨h1, h2⟩ _ hK
      simp only [wdV]
      gi_wp2
      refine hK _ _ ((Chg.refl _ W).alloc _) ⟨W.heap.size, rfl, rfl, rfl, rfl, rfl, rfl, rfl, by omega, ?_, h1, ?_⟩
      · constructor <;> first | exact new_cell _ _ _ rfl _ | exact new_frozen _ _ _ rfl _
      · exact h2.keep ((Chg.refl (fun _ => False) W).alloc _) (by omega) (fun i hi => id) id id id id (fun i hi => id) id
    case body =>
      rintro l pre x a₁ W hsW ⟨q, e1, e2, e3, e4, e5, e6, e7, e8, e9, h1, h2⟩ hok
      rw [short_words, hL] at hok
      obtain ⟨t, ht⟩ := hok
      have hj : pre.length < L.length := by rw [← ht]; simp
      have hx : L[pre.length] = x := by
        have h3 := List.getElem?_eq_getElem hj
        have h4 : L[pre.length]? = some x := by rw [← ht]; simp
        rw [h4] at h3
        injection h3 with h3
        exact h3.symm
      refine wpIn_mono (c := EachBody1.code) (EachBody1.body_wp (ρ := fun n => a₁.tmps.getD n undef) (a := a₁)
        (R := fun e W' => (e = .returned (.bool true) ∧ Chg (fun i => B ≤ i ∧ ¬ (W0.heap.size ≤ i ∧ i < W0.heap.size + 2 + 1)) W W' ∧ (pre ++ [x]).length < kk ∧ EachI w W' w2.heap.size w.heap.size w2.heap.size (w2.heap.size + 1 + 1) (w2.heap.size + 1 + 1 + 1) A c L kk (pre ++ [x]).length (short s)) ∨
          (e = .returned (.int .i64 0) ∧ Chg (fun i => B ≤ i ∧ ¬ (W0.heap.size ≤ i ∧ i < W0.heap.size + 2 + 1)) W W' ∧ EachI w W' w2.heap.size w.heap.size w2.heap.size (w2.heap.size + 1 + 1) (w2.heap.size + 1 + 1 + 1) A c L kk kk (short s))) ⟨e2, fun n => rfl, e1⟩ ?_) ?_
      · show EachBody1.run _ (a₁.tmps.getD 4 undef) (a₁.tmps.getD 5 undef) (a₁.tmps.getD 8 undef) (a₁.tmps.getD 9 undef) (a₁.tmps.getD 10 undef) W
        rw [e3, e4, e5, e6, e7]
        refine body1_ok h2 hlen hj (by rw [hx]; exact e9) ⟨by omega, by omega, by omega, by omega, by omega, by omega⟩ (by omega) (fun W' hne hI hc => Or.inl ⟨rfl, hc.mono (fun i _ e => by omega), by simp; omega, by simpa using hI⟩) (fun W' hne hI hc => Or.inr ⟨rfl, hc.mono (fun i _ e => by omega), by rw [hne] at hI; exact hI⟩)
      · intro e a' W' hp
        cases e with
        | normal =>
          obtain ⟨_, _, hq⟩ := hp
          rcases hq with ⟨_, hq⟩ | ⟨hq, _⟩
          · exact hq
          · cases hq
        | ret =>
          obtain ⟨_, _, hq⟩ := hp
          rcases hq with ⟨hq, _⟩ | ⟨hq, _⟩ <;> cases hq
        | exit id =>
          obtain ⟨_, _, hq⟩ := hp
          obtain ⟨f, hf, hq⟩ := look_mem hq
          simp at hf
          obtain ⟨hid, rfl⟩ := hf
          obtain rfl : id = 0 := by omega
          rcases hq with ⟨hq, _⟩ | ⟨_, hq⟩
          · cases hq
          · exact ⟨hq.1, rfl, hq.2⟩
        | goto id =>
          obtain ⟨_, _, hq⟩ := hp
          obtain ⟨f, hf, hq⟩ := look_mem hq
          simp at hf
        | panic ch =>
          obtain ⟨_, hq⟩ := hp
          rcases hq with ⟨hq, _⟩ | ⟨hq, _⟩ <;> cases hq
        | outgrown => obtain ⟨_, _, hq⟩ := hp; exact hq.elim
    case done =>
      rintro D xs W hD hsW hxs ⟨h1, h2⟩ hK
      exfalso
      rw [short_words, hL] at hxs
      rw [hxs] at h1
      omega
    case stop =>
      rintro D c' pre Wa hD hsW hxs ⟨rfl, h2⟩ hK
      refine wp_exit ?_
      refine hgo _ _ ?_
      gi_wp2
      rename_i K2 hgo2
      obtain ⟨W1, hW1⟩ : ∃ W1, Wa.alloc (.cells #[.slice none 0 0] 26) = W1 := ⟨_, rfl⟩
      have hca : Chg (fun _ => False) Wa W1 := by rw [← hW1]; exact (Chg.refl _ Wa).alloc _
      have hI2 := h2.keep hca (by omega) (fun i hi => id) id id id id (fun i hi => id) id
      have c11 : W1.cell? ⟨Wa.heap.size, 0, none⟩ = some (.slice none 0 0) := by rw [← hW1]; exact new_cell _ _ _ rfl 0
      have f11 : W1.frozen? ⟨Wa.heap.size, 0, none⟩ = false := by rw [← hW1]; exact new_frozen _ _ _ rfl 0
      have hs1 : W1.heap.size = Wa.heap.size + 1 := by rw [← hW1]; simp
      have hDW := (Array.getElem?_eq_some_iff.1 hK).1
      have hK1 := (hca.block D hDW id).trans hK
      rw [hW1]
      clear hW1
      refine wpIn_wide.2 (rangeC (gf := 24) (lb := #[.pointer (some ⟨w2.heap.size + 1, 0, none⟩)]) rfl scan_Each_1.enters
        (Each1_seq hI2.cs short_le (hO.chg hI2.chg hB fun _ _ => id) (by omega)) (by omega) (fun _ => rfl)
        (fun pre W => (∃ v, W.cell? ⟨Wa.heap.size, 0, none⟩ = some v ∧ W.frozen? ⟨Wa.heap.size, 0, none⟩ = false ∧ W.ownsRow (W1.heap.size + 3) 36 3 v pre.length (pre.flatMap encW)) ∧ EachI w W w2.heap.size w.heap.size w2.heap.size (w2.heap.size + 1 + 1) (w2.heap.size + 1 + 1 + 1) A c L kk kk (short s) ∧ Chg (fun i => i = Wa.heap.size ∨ W1.heap.size ≤ i) W1 W)
        (fun _ _ _ => False) ?hI ?hIx ⟨⟨_, c11, f11, World.ownsRow_nil _ _ _ _⟩, hI2, Chg.refl _ _⟩
        (fun pre x a₁ W => ∃ q, a₁.defers = [] ∧ a₁.tmps.size = 91 ∧ a₁.tmps.getD 4 undef = .pointer (some ⟨w.heap.size, 0, none⟩) ∧ a₁.tmps.getD 5 undef = .pointer (some ⟨w2.heap.size, 0, none⟩) ∧ a₁.tmps.getD 11 undef = .pointer (some ⟨Wa.heap.size, 0, none⟩) ∧
          a₁.tmps.getD 12 undef = .pointer (some ⟨q, 0, none⟩) ∧ W1.heap.size + 3 ≤ q ∧ Tri W q x.1 x.2.1 x.2.2 ∧ (∃ v, W.cell? ⟨Wa.heap.size, 0, none⟩ = some v ∧ W.frozen? ⟨Wa.heap.size, 0, none⟩ = false ∧ W.ownsRow (W1.heap.size + 3) 36 3 v pre.length (pre.flatMap encW)) ∧ EachI w W w2.heap.size w.heap.size w2.heap.size (w2.heap.size + 1 + 1) (w2.heap.size + 1 + 1 + 1) A c L kk kk (short s) ∧ Chg (fun i => i = Wa.heap.size ∨ W1.heap.size ≤ i) W1 W)
        ?hA ?assign ?body ?done ?stop)
      case hI =>
        rintro pre X X' hX ⟨⟨v, h1, h2, h3⟩, h4, h5⟩ hc
        exact ⟨⟨v, hc.at h1 (by simp; omega), (hc.frozen (p := ⟨Wa.heap.size, 0, none⟩) (World.block_lt_of_cell? _ _ h1) (by simp; omega)).trans h2, ownsRow_chg h3 hc (fun i hi => by omega)⟩, h4.keep hc (by omega) (fun i hi => by omega) (by omega) (by omega) (by omega) (by omega) (fun i hi => by omega) (by omega), h5.trans' hc (fun i hi h => by omega)⟩
      case hIx =>
        rintro c' pre X X' hX h hc
        exact h.elim
      case hA =>
        rintro pre x a X X' hX ⟨q, e1, e2, e3, e4, e5, e6, e7, e8, ⟨v, h1, h2, h3⟩, h4, h5⟩ hc
        exact ⟨q, e1, e2, e3, e4, e5, e6, e7, e8.chg hc (by omega), ⟨v, hc.at h1 (by simp; omega), (hc.frozen (p := ⟨Wa.heap.size, 0, none⟩) (World.block_lt_of_cell? _ _ h1) (by simp; omega)).trans h2, ownsRow_chg h3 hc (fun i hi => by omega)⟩, h4.keep hc (by omega) (fun i hi => by omega) (by omega) (by omega) (by omega) (by omega) (fun i hi => by omega) (by omega), h5.trans' hc (fun i hi h => by omega)⟩
      case assign =>
        rintro l pre ⟨kd, t, at'⟩ W K hsW ⟨⟨v, h1, h2, h3⟩, h4, h5⟩ _ hK
        simp only [wdV]
        gi_wp2
        have hca : Chg (fun _ => False) W (W.alloc (.cells #[.int .i64 kd, .string t, .int .i64 at'] 36)) := (Chg.refl _ W).alloc _
        refine hK _ _ (hca.mono fun _ _ h => h.elim) ⟨W.heap.size, rfl, rfl, rfl, rfl, rfl, rfl, by omega, ?_, ⟨v, hca.at h1 id, (hca.frozen (p := ⟨Wa.heap.size, 0, none⟩) (World.block_lt_of_cell? _ _ h1) id).trans h2, ownsRow_chg h3 hca (fun i hi => id)⟩, ?_, h5.trans' hca (fun i hi h => h.elim)⟩
        · constructor <;> first | exact new_cell _ _ _ rfl _ | exact new_frozen _ _ _ rfl _
        · exact h4.keep hca (by omega) (fun i hi => id) id id id id (fun i hi => id) id
      case body =>
        rintro l pre x a₁ W hsW ⟨q, e1, e2, e3, e4, e5, e6, e7, e8, ⟨v, h1, h2, h3⟩, h4, h5⟩ hok
        rw [short_words, hL] at hok
        obtain ⟨t, ht⟩ := hok
        have hj : pre.length < L.length := by rw [← ht]; simp
        refine wpIn_mono (c := EachBody2.code) (EachBody2.body_wp (ρ := fun n => a₁.tmps.getD n undef) (a := a₁)
          (R := fun e W' => e = .returned (.bool true) ∧ Chg (fun i => i = Wa.heap.size ∨ W1.heap.size + 3 ≤ i) W W' ∧ ∃ v, W'.cell? ⟨Wa.heap.size, 0, none⟩ = some v ∧ W'.frozen? ⟨Wa.heap.size, 0, none⟩ = false ∧ W'.ownsRow (W1.heap.size + 3) 36 3 v (pre ++ [x]).length ((pre ++ [x]).flatMap encW)) ⟨e2, fun n => rfl, e1⟩ ?_) ?_
        · show EachBody2.run _ (a₁.tmps.getD 4 undef) (a₁.tmps.getD 5 undef) (a₁.tmps.getD 11 undef) (a₁.tmps.getD 12 undef) W
          rw [e3, e4, e5, e6]
          exact body2_ok h4 hlen hj h1 h2 h3 e8 ⟨by omega, by omega⟩ (fun W' v' g1 g2 g3 hc => ⟨rfl, hc, v', g1, g2, g3⟩)
        · intro e a' W' hp
          cases e with
          | normal =>
            obtain ⟨_, _, _, hc, g⟩ := hp
            exact ⟨hc.mono (fun i _ h => by omega), g, h4.keep hc (by omega) (fun i hi => by omega) (by omega) (by omega) (by omega) (by omega) (fun i hi => by omega) (by omega), h5.trans' hc (fun i hi h => by omega)⟩
          | ret => obtain ⟨_, _, hq, _⟩ := hp; cases hq
          | exit id => obtain ⟨_, _, hq⟩ := hp; obtain ⟨f, hf, _⟩ := look_mem hq; simp at hf
          | goto id => obtain ⟨_, _, hq⟩ := hp; obtain ⟨f, hf, _⟩ := look_mem hq; simp at hf
          | panic ch => obtain ⟨_, hq, _⟩ := hp; cases hq
          | outgrown => obtain ⟨_, _, hq⟩ := hp; exact hq.elim
      case done =>
        rintro D2 xs W hD2 hsW hxs ⟨⟨v, h1, h2, h3⟩, h4, h5⟩ hK2
        rw [short_words, hL] at hxs
        subst hxs
        have hl := words_slice h3 (by omega)
        obtain ⟨A', c', rfl, hl1, _, _⟩ := slice_form hl
        refine hgo2 _ _ ?_
        have k4 := h4.c4
        have m4 := h4.f4
        have k5 := h4.c5
        have k8 := h4.c8
        have k9 := h4.c9
        gi_wp2_with (refine ⟨trivial, ?_⟩; gi_at_call 12; refine (are_calls hl h4.hr (by omega)).mono ?_; rintro e W3 ⟨rfl, hc3⟩; have k4' := hc3.at k4 id; have m4' := (hc3.frozen (p := ⟨w.heap.size, 0, none⟩) (World.block_lt_of_cell? _ _ k4) id).trans m4)
        have hcs : Chg (· = w.heap.size) W3 (W3.setCell ⟨w.heap.size, 0, none⟩ (.bool true)) := (Chg.refl (· = w.heap.size) W3).setCell (p := ⟨w.heap.size, 0, none⟩) (Or.inl rfl) _
        have hcw : Chg (fun _ => False) w (W3.setCell ⟨w.heap.size, 0, none⟩ (.bool true)) := (h4.chg.trans hc3).trans' hcs (fun i hi h => by omega)
        have hcell := World.cell?_setCell_same' W3 ⟨w.heap.size, 0, none⟩ (.bool true) (by rw [k4']; rfl)
        have hE2 := (hcs.block D2 (Nat.lt_of_lt_of_le (Array.getElem?_eq_some_iff.1 hK2).1 hc3.size) (by omega)).trans ((hc3.block D2 (Array.getElem?_eq_some_iff.1 hK2).1 id).trans hK2)
        have hDa := (h5.block D (by omega) (by omega)).trans hK1
        have hE1 := (hcs.block D (Nat.lt_of_lt_of_le (Array.getElem?_eq_some_iff.1 hDa).1 hc3.size) (by omega)).trans ((hc3.block D (Array.getElem?_eq_some_iff.1 hDa).1 id).trans hDa)
        exact each_end2 (D2 := D2) (D := D) rfl rfl hcw hcell hE2 hE1 (by omega) (by omega) (by omega)
      case stop =>
        rintro D2 c' pre W hD2 hsW hxs h hK2
        exact h.elim
  · rename_i hpos K2 hgo2
    generalize hkk : pickN k (L.length + 1) = kk at hpos ⊢
    have hk0 : kk = 0 := by omega
    generalize hW0 : ((((w2.alloc (.cells #[.slice A L.length c] 23)).alloc (.cells #[.string (short s)] 9)).alloc (.cells #[.int .i64 kk] 3)).alloc (.cells #[.int .i64 0] 3)) = Wa
    obtain ⟨h2, hstr, hsz, hlt⟩ := each_start hc1 hc2 hr hW0
    clear hW0
    have h2 : EachI w Wa w2.heap.size w.heap.size w2.heap.size (w2.heap.size + 1 + 1) (w2.heap.size + 1 + 1 + 1) A c L kk kk (short s) := by rw [hk0] at h2 ⊢; exact h2
    have hBw : B ≤ w2.heap.size := by omega
    obtain ⟨W1, hW1⟩ : ∃ W1, Wa.alloc (.cells #[.slice none 0 0] 26) = W1 := ⟨_, rfl⟩
    have hca : Chg (fun _ => False) Wa W1 := by rw [← hW1]; exact (Chg.refl _ Wa).alloc _
    have hI2 := h2.keep hca (by omega) (fun i hi => id) id id id id (fun i hi => id) id
    have hs1 : W1.heap.size = Wa.heap.size + 1 := by rw [← hW1]; simp
    have hq11 : w2.heap.size + 1 + 1 + 1 + 1 = Wa.heap.size := by omega
    have c11 : W1.cell? ⟨Wa.heap.size, 0, none⟩ = some (.slice none 0 0) := by rw [← hW1]; exact new_cell _ _ _ rfl 0
    have f11 : W1.frozen? ⟨Wa.heap.size, 0, none⟩ = false := by rw [← hW1]; exact new_frozen _ _ _ rfl 0
    rw [hW1]
    rw [← hq11] at c11 f11 hs1
    clear hW1 hq11
    refine wpIn_wide.2 (rangeC (gf := 24) (lb := #[.pointer (some ⟨w2.heap.size + 1, 0, none⟩)]) rfl scan_Each_1.enters
      (Each1_seq hI2.cs short_le (hO.chg hI2.chg hB fun _ _ => id) (by omega)) (by omega) (fun _ => rfl)
      (fun pre W => (∃ v, W.cell? ⟨(w2.heap.size + 1 + 1 + 1 + 1), 0, none⟩ = some v ∧ W.frozen? ⟨(w2.heap.size + 1 + 1 + 1 + 1), 0, none⟩ = false ∧ W.ownsRow (W1.heap.size + 3) 36 3 v pre.length (pre.flatMap encW)) ∧ EachI w W w2.heap.size w.heap.size w2.heap.size (w2.heap.size + 1 + 1) (w2.heap.size + 1 + 1 + 1) A c L kk kk (short s) ∧ Chg (fun i => i = (w2.heap.size + 1 + 1 + 1 + 1) ∨ W1.heap.size ≤ i) W1 W)
      (fun _ _ _ => False) ?hI ?hIx ⟨⟨_, c11, f11, World.ownsRow_nil _ _ _ _⟩, hI2, Chg.refl _ _⟩
      (fun pre x a₁ W => ∃ q, a₁.defers = [] ∧ a₁.tmps.size = 91 ∧ a₁.tmps.getD 4 undef = .pointer (some ⟨w.heap.size, 0, none⟩) ∧ a₁.tmps.getD 5 undef = .pointer (some ⟨w2.heap.size, 0, none⟩) ∧ a₁.tmps.getD 11 undef = .pointer (some ⟨(w2.heap.size + 1 + 1 + 1 + 1), 0, none⟩) ∧
        a₁.tmps.getD 12 undef = .pointer (some ⟨q, 0, none⟩) ∧ W1.heap.size + 3 ≤ q ∧ Tri W q x.1 x.2.1 x.2.2 ∧ (∃ v, W.cell? ⟨(w2.heap.size + 1 + 1 + 1 + 1), 0, none⟩ = some v ∧ W.frozen? ⟨(w2.heap.size + 1 + 1 + 1 + 1), 0, none⟩ = false ∧ W.ownsRow (W1.heap.size + 3) 36 3 v pre.length (pre.flatMap encW)) ∧ EachI w W w2.heap.size w.heap.size w2.heap.size (w2.heap.size + 1 + 1) (w2.heap.size + 1 + 1 + 1) A c L kk kk (short s) ∧ Chg (fun i => i = (w2.heap.size + 1 + 1 + 1 + 1) ∨ W1.heap.size ≤ i) W1 W)
      ?hA ?assign ?body ?done ?stop)
    case hI =>
      rintro pre X X' hX ⟨⟨v, h1, h2, h3⟩, h4, h5⟩ hc
      exact ⟨⟨v, hc.at h1 (by simp; omega), (hc.frozen (p := ⟨(w2.heap.size + 1 + 1 + 1 + 1), 0, none⟩) (World.block_lt_of_cell? _ _ h1) (by simp; omega)).trans h2, ownsRow_chg h3 hc (fun i hi => by omega)⟩, h4.keep hc (by omega) (fun i hi => by omega) (by omega) (by omega) (by omega) (by omega) (fun i hi => by omega) (by omega), h5.trans' hc (fun i hi h => by omega)⟩
    case hIx =>
      rintro c' pre X X' hX h hc
      exact h.elim
    case hA =>
      rintro pre x a X X' hX ⟨q, e1, e2, e3, e4, e5, e6, e7, e8, ⟨v, h1, h2, h3⟩, h4, h5⟩ hc
      exact ⟨q, e1, e2, e3, e4, e5, e6, e7, e8.chg hc (by omega), ⟨v, hc.at h1 (by simp; omega), (hc.frozen (p := ⟨(w2.heap.size + 1 + 1 + 1 + 1), 0, none⟩) (World.block_lt_of_cell? _ _ h1) (by simp; omega)).trans h2, ownsRow_chg h3 hc (fun i hi => by omega)⟩, h4.keep hc (by omega) (fun i hi => by omega) (by omega) (by omega) (by omega) (by omega) (fun i hi => by omega) (by omega), h5.trans' hc (fun i hi h => by omega)⟩
    case assign =>
      rintro l pre ⟨kd, t, at'⟩ W K hsW ⟨⟨v, h1, h2, h3⟩, h4, h5⟩ _ hK
      simp only [wdV]
      gi_wp2
      have hca : Chg (fun _ => False) W (W.alloc (.cells #[.int .i64 kd, .string t, .int .i64 at'] 36)) := (Chg.refl _ W).alloc _
      refine hK _ _ (hca.mono fun _ _ h => h.elim) ⟨W.heap.size, rfl, rfl, rfl, rfl, rfl, rfl, by omega, ?_, ⟨v, hca.at h1 id, (hca.frozen (p := ⟨(w2.heap.size + 1 + 1 + 1 + 1), 0, none⟩) (World.block_lt_of_cell? _ _ h1) id).trans h2, ownsRow_chg h3 hca (fun i hi => id)⟩, ?_, h5.trans' hca (fun i hi h => h.elim)⟩
      · constructor <;> first | exact new_cell _ _ _ rfl _ | exact new_frozen _ _ _ rfl _
      · exact h4.keep hca (by omega) (fun i hi => id) id id id id (fun i hi => id) id
    case body =>
      rintro l pre x a₁ W hsW ⟨q, e1, e2, e3, e4, e5, e6, e7, e8, ⟨v, h1, h2, h3⟩, h4, h5⟩ hok
      rw [short_words, hL] at hok
      obtain ⟨t, ht⟩ := hok
      have hj : pre.length < L.length := by rw [← ht]; simp
      refine wpIn_mono (c := EachBody2.code) (EachBody2.body_wp (ρ := fun n => a₁.tmps.getD n undef) (a := a₁)
        (R := fun e W' => e = .returned (.bool true) ∧ Chg (fun i => i = (w2.heap.size + 1 + 1 + 1 + 1) ∨ W1.heap.size + 3 ≤ i) W W' ∧ ∃ v, W'.cell? ⟨(w2.heap.size + 1 + 1 + 1 + 1), 0, none⟩ = some v ∧ W'.frozen? ⟨(w2.heap.size + 1 + 1 + 1 + 1), 0, none⟩ = false ∧ W'.ownsRow (W1.heap.size + 3) 36 3 v (pre ++ [x]).length ((pre ++ [x]).flatMap encW)) ⟨e2, fun n => rfl, e1⟩ ?_) ?_
      · show EachBody2.run _ (a₁.tmps.getD 4 undef) (a₁.tmps.getD 5 undef) (a₁.tmps.getD 11 undef) (a₁.tmps.getD 12 undef) W
        rw [e3, e4, e5, e6]
        exact body2_ok h4 hlen hj h1 h2 h3 e8 ⟨by omega, by omega⟩ (fun W' v' g1 g2 g3 hc => ⟨rfl, hc, v', g1, g2, g3⟩)
      · intro e a' W' hp
        cases e with
        | normal =>
          obtain ⟨_, _, _, hc, g⟩ := hp
          exact ⟨hc.mono (fun i _ h => by omega), g, h4.keep hc (by omega) (fun i hi => by omega) (by omega) (by omega) (by omega) (by omega) (fun i hi => by omega) (by omega), h5.trans' hc (fun i hi h => by omega)⟩
        | ret => obtain ⟨_, _, hq, _⟩ := hp; cases hq
        | exit id => obtain ⟨_, _, hq⟩ := hp; obtain ⟨f, hf, _⟩ := look_mem hq; simp at hf
        | goto id => obtain ⟨_, _, hq⟩ := hp; obtain ⟨f, hf, _⟩ := look_mem hq; simp at hf
        | panic ch => obtain ⟨_, hq, _⟩ := hp; cases hq
        | outgrown => obtain ⟨_, _, hq⟩ := hp; exact hq.elim
    case done =>
      rintro D2 xs W hD2 hsW hxs ⟨⟨v, h1, h2, h3⟩, h4, h5⟩ hK2
      rw [short_words, hL] at hxs
      subst hxs
      have hl := words_slice h3 (by omega)
      obtain ⟨A', c', rfl, hl1, _, _⟩ := slice_form hl
      refine hgo2 _ _ ?_
      have k4 := h4.c4
      have m4 := h4.f4
      have k5 := h4.c5
      have k8 := h4.c8
      have k9 := h4.c9
      gi_wp2_with (refine ⟨trivial, ?_⟩; gi_at_call 12; refine (are_calls hl h4.hr (by omega)).mono ?_; rintro e W3 ⟨rfl, hc3⟩; have k4' := hc3.at k4 id; have m4' := (hc3.frozen (p := ⟨w.heap.size, 0, none⟩) (World.block_lt_of_cell? _ _ k4) id).trans m4)
      have hcs : Chg (· = w.heap.size) W3 (W3.setCell ⟨w.heap.size, 0, none⟩ (.bool true)) := (Chg.refl (· = w.heap.size) W3).setCell (p := ⟨w.heap.size, 0, none⟩) (Or.inl rfl) _
      have hcw : Chg (fun _ => False) w (W3.setCell ⟨w.heap.size, 0, none⟩ (.bool true)) := (h4.chg.trans hc3).trans' hcs (fun i hi h => by omega)
      have hcell := World.cell?_setCell_same' W3 ⟨w.heap.size, 0, none⟩ (.bool true) (by rw [k4']; rfl)
      have hE2 := (hcs.block D2 (Nat.lt_of_lt_of_le (Array.getElem?_eq_some_iff.1 hK2).1 hc3.size) (by omega)).trans ((hc3.block D2 (Array.getElem?_eq_some_iff.1 hK2).1 id).trans hK2)
      exact each_end1 (D2 := D2) rfl rfl hcw hcell hE2 (by omega)
    case stop =>
      rintro D2 c' pre W hD2 hsW hxs h hK2
      exact h.elim

theorem ScanEach_ct {s : ByteArray} {k : Int} {w : World} {B : Nat} (hs : s.size ≤ maxLen) (hk : inI64 k) (hO : Ord w B) (hB : B ≤ w.heap.size) : Ct Tryd.prog law03_ScanEach.id #[.string s, .int .i64 k] w fun v w' => v = .bool true ∧ Chg (fun _ => False) w w' :=
  ⟨fun args w => Tryd.call4 args w, callsIn_wide.1 (ScanEach_in hs hk hO hB)⟩
end Go.Proofs.YtgjifldciinehaaDoor
