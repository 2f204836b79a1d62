/-
  pick; ScanEach.
-/
import Derived.Test.YtgjifldciinehaaDoorLw7
import Derived.Test.YtgjifldciinehaaDoorT03B1
import Derived.Test.YtgjifldciinehaaDoorT03B2
namespace Go.Proofs.YtgjifldciinehaaDoor
open Go.Px Go.Px.Scan Go.RowKit Go.Shelf
set_option maxHeartbeats 1000000
set_option linter.unusedSimpArgs false
attribute [local go_sem] Oper.semAt_some

/-- Which of n things a raw number speaks of. -/
def pickN (c : Int) (n : Nat) : Nat := (if c < 0 then -(c + 1) else c).toNat % n
theorem pickN_lt (c : Int) {n : Nat} (h : 0 < n) : pickN c n < n := Nat.mod_lt _ h

theorem pick_ct {c : Int} (hc : inI64 c) {n : Nat} (hn : 0 < n) (hm : n ≤ maxLen) (w : World) : Ct Tryd.prog law03_pick.id #[.int .i64 c, .int .i64 n] w fun v w' => v = .int .i64 (pickN c n) ∧ w = w' := by
  have hn0 : ¬ (n = 0) := by omega
  have hmn : (n : Int) ≤ 9223372036854775807 := by unfold maxLen at hm; omega
  obtain ⟨h1, h2⟩ := hc
  refine law03_pick.ct fun R hR => ?_
  unfold law03_pick.run law03_pick.b1
  simp [go_sem]
  refine SPL_intro (fun h => ?_) (fun h => ?_) <;> simp at h
  · have w1 : IntKind.i64.wrap (c + 1) = c + 1 := IntWalk.i64_in _ (by omega)
    have w2 : IntKind.i64.wrap (-(c + 1)) = -(c + 1) := IntWalk.i64_in _ (by omega)
    simp [go_sem, w1, w2]
    unfold law03_pick.b2
    simp [go_sem, hn0, RES_ok]
    refine hR _ _ ⟨?_, rfl⟩
    unfold pickN
    rw [if_pos h]
    have e : -(c + 1) = (((-(c + 1)).toNat : Nat) : Int) := by omega
    rw [show (-(c + 1).tmod ↑n) = (-(c + 1)).tmod n by rw [Int.neg_tmod], e]
    simp only [Int.toNat_natCast]
    rw [Int.ofNat_tmod]
  · unfold law03_pick.b2
    simp [go_sem, hn0, RES_ok]
    refine hR _ _ ⟨?_, rfl⟩
    unfold pickN
    rw [if_neg (by omega)]
    have e : c = ((c.toNat : Nat) : Int) := by omega
    rw [e]
    simp only [Int.toNat_natCast]
    rfl

theorem awake_calls {w : World} {B : Nat} (hO : Ord w B) (hB : B ≤ w.heap.size) : CallsIn Fence.wide 2 Tryd.prog 8 #[] w fun e w' => e = .returned (.bool true) ∧ Chg (fun _ => False) w w' :=
  callsIn_wide.2 ((awake_ct hO hB).2.mono fun e w' he => by
    cases e with
    | returned v => exact ⟨by rw [he.1], he.2⟩
    | _ => exact he.elim)
theorem all_calls {s : ByteArray} {L : List Wd} (hL : (wordsS s).1 = L) (hs : s.size ≤ maxLen) (w : World) : CallsIn Fence.wide 2 Tryd.prog 9 #[.string s] w fun e w' =>
    ∃ A c z, e = .returned (.tuple #[.slice A L.length c, .int .i64 z]) ∧ L.length ≤ c ∧ (rSlice rWd).at1 w' w'.heap.size (.slice A L.length c) L ∧ Chg (fun _ => False) w w' :=
  callsIn_wide.2 ((ref_All_ct hs w).2.mono fun e w' he => by
    cases e with
    | returned v =>
      obtain ⟨⟨sl, hv, ho⟩, hc⟩ := he
      have hr := all_rep ho
      rw [hL] at hr
      obtain ⟨A, c, rfl, hl, _, _⟩ := slice_form hr
      cases hb : (wordsS s).2 with
      | none => rw [hb] at hv; exact ⟨A, c, -1, by rw [hv]; rfl, hl, hr, hc⟩
      | some k => rw [hb] at hv; exact ⟨A, c, k, by rw [hv]; rfl, hl, hr, hc⟩
    | _ => exact he.elim)
theorem pick_calls {c : Int} (hc : inI64 c) {n : Nat} (hm : n + 1 ≤ maxLen) (w : World) : CallsIn Fence.wide 2 Tryd.prog 14 #[.int .i64 c, .int .i64 ((n : Int) + 1)] w fun e w' => e = .returned (.int .i64 (pickN c (n + 1) : Nat)) ∧ w' = w :=
  callsIn_wide.2 ((pick_ct hc (Nat.succ_pos n) hm w).2.mono fun e w' he => by
    cases e with
    | returned v => exact ⟨by rw [he.1], he.2.symm⟩
    | _ => exact he.elim)

theorem func_eq_nil {f : Fn} {a b : Array Value} {w : World} : (binOp BinOp.eql 39 (.func f a b) .nilFunc).run Tryd.prog w = .ok (.bool false) w := by
  simp only [binOp, Op.equal]
  rw [show Op.maxDepth = 9999 + 1 from rfl]
  unfold Op.equalIn
  simp [run_underlying Tryd.underlying39, go_sem]
attribute [local go_sem] func_eq_nil

/-- The cells of the law's variables. -/
structure EachI (w W : World) (Bq q4 q5 q8 q9 : Nat) (A : Option Addr) (c : Nat) (L : List Wd) (kk j : Nat) (t : ByteArray) : Prop where
  c4 : W.cell? ⟨q4, 0, none⟩ = some (.bool false)
  f4 : W.frozen? ⟨q4, 0, none⟩ = false
  c5 : W.cell? ⟨q5, 0, none⟩ = some (.slice A L.length c)
  c8 : W.cell? ⟨q8, 0, none⟩ = some (.int .i64 kk)
  c9 : W.cell? ⟨q9, 0, none⟩ = some (.int .i64 j)
  f9 : W.frozen? ⟨q9, 0, none⟩ = false
  hr : (rSlice rWd).at1 W Bq (.slice A L.length c) L
  chg : Chg (fun _ => False) w W
  cs : W.cell? ⟨q5 + 1, 0, none⟩ = some (.string t)

theorem EachI.keep {w W W' : World} {Bq q4 q5 q8 q9 A c L kk j t} {F : Nat → Prop} (h : EachI w W Bq q4 q5 q8 q9 A c L kk j t) (hc : Chg F W W') (hB : Bq ≤ W.heap.size) (h0 : ∀ i, i < Bq → ¬ F i) (h4 : ¬ F q4) (h5 : ¬ F q5) (h8 : ¬ F q8) (h9 : ¬ F q9) (hw : ∀ i, i < w.heap.size → ¬ F i) (hs : ¬ F (q5 + 1)) : EachI w W' Bq q4 q5 q8 q9 A c L kk j t :=
  ⟨hc.at h.c4 h4, (hc.frozen (p := ⟨q4, 0, none⟩) (World.block_lt_of_cell? _ _ h.c4) h4).trans h.f4, hc.at h.c5 h5, hc.at h.c8 h8, hc.at h.c9 h9, (hc.frozen (p := ⟨q9, 0, none⟩) (World.block_lt_of_cell? _ _ h.c9) h9).trans h.f9,
    Rep.below h.hr (hc.below hB h0), h.chg.down hc hw, hc.at h.cs hs⟩

theorem body1_ok {R : Ending → World → Prop} {w W : World} {Bq q4 q5 q8 q9 q : Nat} {A : Option Addr} {c : Nat} {L : List Wd} {kk j : Nat} {t : ByteArray} (h : EachI w W Bq q4 q5 q8 q9 A c L kk j t) (hlen : L.length ≤ 8192) (hj : j < L.length) (ht : Tri W q L[j].1 L[j].2.1 L[j].2.2)
    (hd : q9 ≠ q4 ∧ q9 ≠ q5 ∧ q9 ≠ q8 ∧ w.heap.size ≤ q9 ∧ Bq ≤ q9 ∧ Bq ≤ W.heap.size) (hd5 : q9 ≠ q5 + 1)
    (hN : ∀ W', j + 1 ≠ kk → EachI w W' Bq q4 q5 q8 q9 A c L kk (j + 1) t → Chg (· = q9) W W' → R (.returned (.bool true)) W')
    (hE : ∀ W', j + 1 = kk → EachI w W' Bq q4 q5 q8 q9 A c L kk (j + 1) t → Chg (· = q9) W W' → R (.returned (.int .i64 0)) W') :
    EachBody1.run R (.pointer (some ⟨q4, 0, none⟩)) (.pointer (some ⟨q5, 0, none⟩)) (.pointer (some ⟨q8, 0, none⟩)) (.pointer (some ⟨q9, 0, none⟩)) (.pointer (some ⟨q, 0, none⟩)) W := by
  obtain ⟨b, o, rfl, hb, h0, h1, h2⟩ := wds_at h.hr hj
  have g0 := ht.c0
  have g1 := ht.c1
  have g2 := ht.c2
  have wk : IntKind.i64.wrap ((j : Int) + 1) = (j : Int) + 1 := IntWalk.i64_in _ (by omega)
  unfold EachBody1.run EachBody1.b4
  simp [go_sem, h.c4, h.c5, h.c8, h.c9, g0, g1, g2, h0, h1, h2, hj, Nat.not_le.2 hj]
  unfold EachBody1.b5
  simp [go_sem]
  unfold EachBody1.b3
  have c9' : (W.drew.setCell ⟨q9, 0, none⟩ (.int .i64 ((j : Int) + 1))).cell? ⟨q9, 0, none⟩ = some (.int .i64 ((j : Int) + 1)) := World.cell?_setCell_same' _ _ _ (by simp [go_sem, h.c9])
  have hcc : Chg (· = q9) W (W.drew.setCell ⟨q9, 0, none⟩ (.int .i64 ((j : Int) + 1))) := (Chg.refl (· = q9) W).drew.setCell (p := ⟨q9, 0, none⟩) (Or.inl rfl) _
  have hI : EachI w (W.drew.setCell ⟨q9, 0, none⟩ (.int .i64 ((j : Int) + 1))) Bq q4 q5 q8 q9 (some ⟨b, o, none⟩) c L kk (j + 1) t :=
    ⟨hcc.at h.c4 (fun e => hd.1 e.symm), (hcc.frozen (p := ⟨q4, 0, none⟩) (World.block_lt_of_cell? _ _ h.c4) (fun e => hd.1 e.symm)).trans h.f4, hcc.at h.c5 (fun e => hd.2.1 e.symm), hcc.at h.c8 (fun e => hd.2.2.1 e.symm), by simpa using c9',
      by rw [World.frozen?_setCell]; exact h.f9, Rep.below h.hr (hcc.below hd.2.2.2.2.2 (fun i hi e => by omega)), h.chg.down hcc (fun i hi e => by omega), hcc.at h.cs (fun e => hd5 e.symm)⟩
  have c8' := hI.c8
  simp [go_sem, h.c9, h.f9, wk, c8', c9', h.c8]
  refine SPL_intro (fun h3 => ?_) (fun h3 => ?_)
  · exact hE _ (by simp at h3; omega) hI hcc
  · exact hN _ (by simp at h3; omega) hI hcc

theorem body2_ok {R : Ending → World → Prop} {w W : World} {Bq q4 q5 q8 q9 q11 q base : Nat} {A : Option Addr} {c : Nat} {L pre : List Wd} {kk : Nat} {x : Wd} {v : Value} {t : ByteArray} (h : EachI w W Bq q4 q5 q8 q9 A c L kk kk t) (hlen : L.length ≤ 8192) (hp : pre.length < L.length)
    (c11 : W.cell? ⟨q11, 0, none⟩ = some v) (f11 : W.frozen? ⟨q11, 0, none⟩ = false) (ho : W.ownsRow base 36 3 v pre.length (pre.flatMap encW)) (ht : Tri W q x.1 x.2.1 x.2.2) (hq : q11 < base ∧ base ≤ W.heap.size)
    (hN : ∀ W' v', W'.cell? ⟨q11, 0, none⟩ = some v' → W'.frozen? ⟨q11, 0, none⟩ = false → W'.ownsRow base 36 3 v' (pre ++ [x]).length ((pre ++ [x]).flatMap encW) → Chg (fun i => i = q11 ∨ base ≤ i) W W' → R (.returned (.bool true)) W') :
    EachBody2.run R (.pointer (some ⟨q4, 0, none⟩)) (.pointer (some ⟨q5, 0, none⟩)) (.pointer (some ⟨q11, 0, none⟩)) (.pointer (some ⟨q, 0, none⟩)) W := by
  have g0 := ht.c0
  have g1 := ht.c1
  have g2 := ht.c2
  have hv : ∃ a' c', v = .slice a' pre.length c' := by
    rcases (own_form ho) with ⟨rfl, h0⟩ | ⟨g, cap, rfl, _⟩
    · exact ⟨none, 0, by rw [h0]⟩
    · exact ⟨_, _, rfl⟩
  obtain ⟨a', c', hv⟩ := hv
  have hp11 := World.block_lt_of_cell? W _ c11
  obtain ⟨i0, hi, hz0, hz1, hz2⟩ := info_parts info36
  unfold EachBody2.run EachBody2.b1
  generalize hap : Builtin.append_ = ap
  rw [hv] at c11
  simp [go_sem, c11, h.c5, g0, g1, g2]
  refine SPL_intro (fun h3 => ?_) (fun h3 => ?_)
  · simp at h3; omega
  simp [go_sem, c11, h.c5, g0, g1, g2]
  rw [← hap]
  clear hap ap
  rw [hv] at ho
  generalize hw2 : W.alloc _ = w2
  have hn : ∀ j u, (encW x)[j]? = some u → w2.cell? ((⟨W.heap.size, 0, none⟩ : Addr).add j) = some u := by
    rw [← hw2]
    exact alloc_cells W (encW x) 36 (by simp)
  have hc2 : Chg (fun _ => False) W w2 := by rw [← hw2]; exact (Chg.refl _ _).alloc _
  have ho2 := ownsRow_chg ho hc2 (fun _ _ => id)
  have hs2 : w2.heap.size = W.heap.size + 1 := by rw [← hw2]; simp
  clear hw2
  refine append_own 26 26 36 Tryd.underlying26 hi hz0 hz1 hz2 rfl (by omega) ho2 rfl hn ?_ (by unfold maxLen; omega) (by unfold maxBytes; omega) (by omega) ?_
  · intro u hu
    simp [encW] at hu
    rcases hu with rfl | rfl | rfl <;> rfl
  intro g c3 w3 ho3 hg3 hgb
  have hc3 : Chg (fun i => base ≤ i) w2 w3 := grown_chg hg3 fun k hk => (ownsRow_block ho2 hk).1
  have hv4 := hc3.at (hc2.at c11 id) (by simp; omega)
  have hf4 : w3.frozen? ⟨q11, 0, none⟩ = false := (hc3.frozen (p := ⟨q11, 0, none⟩) (by simp; omega) (by simp; omega)).trans ((hc2.frozen (p := ⟨q11, 0, none⟩) hp11 id).trans f11)
  simp [go_sem, hv4, hf4]
  have hc4 : Chg (fun i => i = q11 ∨ base ≤ i) W w3 := (hc2.mono (fun i _ h => h.elim)).trans' hc3 (fun i _ h => Or.inr h)
  refine hN _ _ (World.cell?_setCell_same _ _ _ hv4) (by rw [World.frozen?_setCell]; exact hf4) ?_ (hc4.setCell (Or.inl (Or.inl rfl)) _)
  have := ownsRow_chg ho3 (Chg.setCell (F := (· = q11)) (p := ⟨q11, 0, none⟩) (Chg.refl _ _) (Or.inl rfl) (.slice (some ⟨g, 0, none⟩) (pre.length + 1) c3)) (fun i hi e => by omega)
  simpa using this
end Go.Proofs.YtgjifldciinehaaDoor
