/-
  ScanSpread: the law's contract.
-/
import Derived.Test.YtgjifldciinehaaDoorLw9b
namespace Go.Proofs.YtgjifldciinehaaDoor
open Go.Px Go.Px.Scan Go.RowKit
set_option maxHeartbeats 20000000
set_option linter.unusedSimpArgs false

def rPiece : Rep PieceT := rInt.prod (rInt.prod (rInt.prod rStr))
theorem rPiece_ok {w : World} {B : Nat} {cs : List Value} {x : PieceT} (h : rPiece.ok w B cs x) : cs = [.int .i64 x.1, .int .i64 x.2.1, .int .i64 x.2.2.1, .string x.2.2.2] ∧ inI64 x.1 ∧ inI64 x.2.1 ∧ inI64 x.2.2.1 ∧ x.2.2.2.size ≤ maxLen := by
  obtain ⟨c1, c2, rfl, ⟨rfl, h1⟩, c3, c4, rfl, ⟨rfl, h2⟩, c5, c6, rfl, ⟨rfl, h3⟩, rfl, h4⟩ := h
  exact ⟨rfl, h1, h2, h3, h4⟩
structure PcAt (w : World) (b o : Nat) (x : PieceT) : Prop where
  c0 : w.cell? ⟨b, o, none⟩ = some (.int .i64 x.1)
  c1 : w.cell? ⟨b, o + 1, none⟩ = some (.int .i64 x.2.1)
  c2 : w.cell? ⟨b, o + 2, none⟩ = some (.int .i64 x.2.2.1)
  c3 : w.cell? ⟨b, o + 3, none⟩ = some (.string x.2.2.2)
  i0 : inI64 x.1
  i1 : inI64 x.2.1
  i2 : inI64 x.2.2.1
  sz : x.2.2.2.size ≤ maxLen
theorem PcAt.chg {w w' : World} {b o : Nat} {x : PieceT} (h : PcAt w b o x) (hc : Chg (fun _ => False) w w') : PcAt w' b o x := ⟨hc.at h.c0 id, hc.at h.c1 id, hc.at h.c2 id, hc.at h.c3 id, h.i0, h.i1, h.i2, h.sz⟩
theorem piece_at {w : World} {B : Nat} {A : Option Addr} {n c : Nat} {l : List PieceT} (h : (rSlice rPiece).at1 w B (.slice A n c) l) {i : Nat} (hi : i < l.length) : ∃ b o, A = some ⟨b, o, none⟩ ∧ PcAt w b (o + i * 4) l[i] := by
  obtain ⟨b, o, ys, hA, hb, hok, hc⟩ := slice_at h hi
  obtain ⟨rfl, h1, h2, h3, h4⟩ := rPiece_ok hok
  exact ⟨b, o, hA, hc 0 _ rfl, hc 1 _ rfl, hc 2 _ rfl, hc 3 _ rfl, h1, h2, h3, h4⟩

def gapsL : List ByteArray := [⟨#[32]⟩, ⟨#[10]⟩, ⟨#[9, 32, 13, 10]⟩, ⟨#[32, 35, 32, 97, 32, 39, 98, 32, 37, 99, 10]⟩, ⟨#[35, 10, 10]⟩, ⟨#[32, 32]⟩]
def behindB (g : ByteArray) : Bool := decide (0 < g.size) && (blankN (bt g 0) || decide (bt g 0 = 35))
theorem behind_of {g : ByteArray} (h : behindB g = true) : Behind g ∧ 0 < g.size := by
  simp [behindB] at h
  exact ⟨Or.inr h.2, h.1⟩
theorem gaps_ok : ∀ g ∈ gapsL, behindB g = true ∧ gapRun (bytesN g) false = some false ∧ g.size ≤ 11 := by decide +kernel
def tailU : ByteArray := ⟨#[32, 35, 32, 116, 104, 101, 32, 101, 110, 100, 58, 32, 36, 32, 39]⟩
theorem tail_ok : behindB tailU = true ∧ gapRun (bytesN tailU) false = some true := by decide +kernel

/-- The last loop: what was read is what was made. -/
theorem same_words {R : Ending → World → Prop} {w : World} {v1 v2 : Value} {L : List Wd} (h1 : (rSlice rWd).at1 w w.heap.size v1 L) (h2 : (rSlice rWd).at1 w w.heap.size v2 L) (hR : ∀ w', Chg (fun _ => False) w w' → R (.returned (.bool true)) w') : law03_ScanSpread.b8 R v2 v1 w := by
  obtain ⟨A1, c1, rfl, hl1, hm1, _⟩ := slice_form h1
  obtain ⟨A2, c2, rfl, hl2, hm2, _⟩ := slice_form h2
  unfold law03_ScanSpread.b8
  refine law03_ScanSpread.l10_intro _ _ _ _ _ (fun x w1 => ∃ k : Nat, x = .int .i64 k ∧ k ≤ L.length ∧ Chg (fun _ => False) w w1) (fun x _ => L.length - iv x) ⟨0, rfl, by omega, Chg.refl _ _⟩ ?_
  rintro _ w1 ⟨k, rfl, hk, hc⟩ C hC
  unfold law03_ScanSpread.b11
  simp [go_sem]
  refine SPL_intro (fun h => ?_) (fun h => ?_)
  · have hka : k < L.length := by simpa using h
    obtain ⟨b1, o1, rfl, hb1, c10, c11, c12⟩ := wds_at (Rep.below h1 (hc.below (Nat.le_refl _) fun _ _ => id)) hka
    obtain ⟨b2, o2, rfl, hb2, c20, c21, c22⟩ := wds_at (Rep.below h2 (hc.below (Nat.le_refl _) fun _ _ => id)) hka
    have wk := wrap_succ hka (Nat.le_trans hl1 hm1)
    simp [go_sem, hka, c10, c11, c12, c20, c21, c22, wk]
    exact hC _ _ ⟨k + 1, by simp, by omega, hc.drew⟩ (by simp [iv]; omega)
  · unfold law03_ScanSpread.b7
    exact hR _ hc

/-- The end: the text is read. -/
theorem spread_last {R : Ending → World → Prop} {w : World} {B base : Nat} {T : ByteArray} {L : List Wd} {v2 : Value} (hx : allS T 0 = (L, none)) (hT : T.size ≤ 8192) (hO : Ord w B) (hB : B ≤ w.heap.size) (ho : w.ownsRow base 36 3 v2 L.length (L.flatMap encW)) (hR : ∀ w', Chg (fun _ => False) w w' → R (.returned (.bool true)) w') :
    law03_ScanSpread.b4 R (.string T) v2 w := by
  have hws : wordsS T = (L, none) := by rw [small_words (by omega)]; exact hx
  have h2 := words_slice ho (by
    have := all_len T 0 (Nat.zero_le _)
    rw [hx] at this
    simp at this; omega)
  unfold law03_ScanSpread.b4
  refine CALL_of (Words_none_ct (s := T) (by rw [hws]) (by unfold maxLen; omega) hO hB) ?_
  intro v w1 h
  refine h.elim fun A h => h.elim fun c h => ?_
  have hl1 := h.2.2.1
  have hc1 := h.2.2.2
  rw [h.1]
  clear h
  rw [hws] at hl1 ⊢
  have h2' := Rep.up (Rep.below h2 (hc1.below (Nat.le_refl _) fun _ _ => id)) hc1.size
  obtain ⟨A2, c2, rfl, hl2, _, _⟩ := slice_form h2'
  simp [go_sem]
  have hq := MiAt.new w1 0 0 (.slice none 0 0)
  have hcc : Chg (fun _ => False) w1 (w1.alloc (.cells #[.int .i64 0, .int .i64 0, .slice none 0 0] 30)) := (Chg.refl _ _).alloc _
  have k1 := Rep.up (Rep.below hl1 (hcc.below (Nat.le_refl _) fun _ _ => id)) hcc.size
  have k2 := Rep.up (Rep.below h2' (hcc.below (Nat.le_refl _) fun _ _ => id)) hcc.size
  have hcw := hc1.trans hcc
  generalize w1.alloc (.cells #[.int .i64 0, .int .i64 0, .slice none 0 0] 30) = w2 at hq hcc k1 k2 hcw ⊢
  unfold law03_ScanSpread.b12
  simp [go_sem, hq.c0]
  unfold law03_ScanSpread.b13
  simp [go_sem]
  exact same_words k1 k2 fun w' hc' => hR w' (hcw.trans hc')

/-- The state of the loop: so many pieces were laid. -/
structure SpI (w W : World) (gb base : Nat) (k : Nat) (T : ByteArray) (L : List Wd) (v : Value) : Prop where
  sp : Spread T L
  len : L.length = k
  zero : k = 0 → T.size = 0
  sz : T.size ≤ 29 * k
  own : W.ownsRow base 36 3 v k (L.flatMap encW)
  gap : ∀ i g, gapsL[i]? = some g → W.cell? ⟨gb, i, none⟩ = some (.string g)
  chg : Chg (fun _ => False) w W

theorem SpI.keep {w W W' : World} {gb base k : Nat} {T : ByteArray} {L : List Wd} {v : Value} (h : SpI w W gb base k T L v) (hc : Chg (fun _ => False) W W') : SpI w W' gb base k T L v :=
  ⟨h.sp, h.len, h.zero, h.sz, ownsRow_chg h.own hc (fun _ _ => id), fun i g hg => hc.at (h.gap i g hg) id, h.chg.trans hc⟩

/-- One piece is laid. -/
theorem spread_put {R : Ending → World → Prop} {C : Value → Value → Value → World → Prop} {w W : World} {gb base k q : Nat} {T G s txt : ByteArray} {L : List Wd} {v : Value} {kd : Nat} (h : SpI w W gb base k T L v) (hk : k < 200)
    (hw : OKW s kd txt) (hs : s.size ≤ 18) (hG : gapRun (bytesN G) false = some false) (hG0 : (G.size = 0 ∧ T.size = 0) ∨ Behind G ∧ 0 < G.size) (hGs : G.size ≤ 11) (ht : Tri W q kd txt 0) (hq : base ≤ W.heap.size ∧ w.heap.size ≤ base ∧ gb < base ∧ ¬ (v.ownBlock = some q)) (hqg : q ≠ gb) (hqw : w.heap.size ≤ q)
    (hC : ∀ W' v', SpI w W' gb base (k + 1) (T ++ G ++ s) (L ++ [((kd : Int), txt, ((T.size + G.size : Nat) : Int))]) v' → C (.string (T ++ G ++ s)) v' (.int .i64 ((k : Int) + 1)) W') :
    law03_ScanSpread.b25 R C (.string (T ++ G)) v (.int .i64 k) (.string s) (.pointer (some ⟨q, 0, none⟩)) W := by
  have hsz := h.sz
  obtain ⟨i0, hi, hz0, hz1, hz2⟩ := info_parts info36
  have e1 : ¬ 9223372036854775807 < T.size + G.size + s.size := by omega
  have wk : IntKind.i64.wrap ((k : Int) + 1) = (k : Int) + 1 := IntWalk.i64_in _ (by omega)
  unfold law03_ScanSpread.b25
  generalize hap : Builtin.append_ = ap
  simp [go_sem, ht.c0, ht.c1, ht.c2, ht.f0, ht.f1, ht.f2, World.cell?_setCell_other, e1]
  rw [← hap]
  clear hap ap
  have ho1 : (W.setCell ⟨q, 2, none⟩ (.int .i64 ((T.size : Int) + G.size))).ownsRow base 36 3 v k (L.flatMap encW) := ownsRow_setCell_other h.own hq.2.2.2 _
  have hc1 : Chg (· = q) W (W.setCell ⟨q, 2, none⟩ (.int .i64 ((T.size : Int) + G.size))) := (Chg.refl (· = q) W).setCell (p := ⟨q, 2, none⟩) (Or.inl rfl) _
  have hs1 := hc1.size
  have hsz1 : (W.setCell ⟨q, 2, none⟩ (.int .i64 ((T.size : Int) + G.size))).heap.size = W.heap.size := by simp
  generalize W.setCell ⟨q, 2, none⟩ (.int .i64 ((T.size : Int) + G.size)) = W1 at ho1 hc1 hs1 hsz1 ⊢
  have hc2 : Chg (fun _ => False) W1 (W1.alloc (.cells #[.int .i64 kd, .string txt, .int .i64 ((T.size : Int) + G.size)] 36)) := (Chg.refl _ _).alloc _
  have hn : ∀ j u, (encW ((kd : Int), txt, (T.size : Int) + G.size))[j]? = some u → (W1.alloc (.cells #[.int .i64 kd, .string txt, .int .i64 ((T.size : Int) + G.size)] 36)).cell? ((⟨W1.heap.size, 0, none⟩ : Addr).add j) = some u := alloc_cells W1 (encW ((kd : Int), txt, (T.size : Int) + G.size)) 36 rfl
  rw [← hsz1]
  have ho2 := ownsRow_chg ho1 hc2 (fun _ _ => id)
  have hs2 := hc2.size
  generalize W1.alloc (.cells #[.int .i64 kd, .string txt, .int .i64 ((T.size : Int) + G.size)] 36) = W2 at hc2 hn ho2 hs2 ⊢
  refine append_own 26 26 36 Tryd.underlying26 hi hz0 hz1 hz2 rfl (by omega) ho2 rfl hn ?_ (by unfold maxLen; omega) (by unfold maxBytes; omega) (by omega) ?_
  · intro u hu
    simp [encW] at hu
    rcases hu with rfl | rfl | rfl <;> rfl
  intro g c3 W3 ho3 hg3 hgb
  have hc3 : Chg (fun i => base ≤ i) W2 W3 := grown_chg hg3 fun k hk => (ownsRow_block ho2 hk).1
  unfold law03_ScanSpread.b21
  simp [go_sem, wk]
  refine hC W3 _ ⟨spread_step h.sp hw hG hG0, by rw [List.length_append, h.len]; rfl, fun h0 => by omega, ?_, ?_, ?_, ?_⟩
  · rw [ByteArray.size_append, ByteArray.size_append]; omega
  · rw [List.flatMap_append]
    have e : List.flatMap encW [((kd : Int), txt, ((T.size + G.size : Nat) : Int))] = encW ((kd : Int), txt, (T.size : Int) + G.size) := by simp
    rw [e]
    exact ho3
  · intro i g' hg'
    exact hc3.at (hc2.at (hc1.at (h.gap i g' hg') (by simp; omega)) id) (by simp; omega)
  · exact ((h.chg.trans' hc1 (fun i hi h => by omega)).trans hc2).trans' hc3 (fun i hi h => by omega)

theorem gaps_cells (w : World) {gb : Nat} (hg : gb = w.heap.size) : ∀ i g, gapsL[i]? = some g → (w.alloc (.cells (gapsL.map Value.string).toArray 9)).cell? ⟨gb, i, none⟩ = some (.string g) := by
  intro i g h
  rw [new_cell _ _ _ hg i, ← Array.getElem?_toList]
  simp [h]

set_option maxRecDepth 100000 in
theorem ScanSpread_ct {w : World} {B : Nat} {va : Value} {ps : List PieceT} (ha : (rSlice rPiece).at1 w w.heap.size va ps) (hO : Ord w B) (hB : B ≤ w.heap.size) : Ct Tryd.prog law03_ScanSpread.id #[va] w fun v w' => v = .bool true ∧ Chg (fun _ => False) w w' := by
  obtain ⟨A, c, rfl, hl, hm, _⟩ := slice_form ha
  refine law03_ScanSpread.ct fun R hR => ?_
  have fin : ∀ w', Chg (fun _ => False) w w' → R (.returned (.bool true)) w' := fun w' h => hR _ _ ⟨rfl, h⟩
  unfold law03_ScanSpread.run law03_ScanSpread.b1
  refine CALL_of (awake_ct hO hB) ?_
  intro v w1 h; rw [h.1]; have hc1 := h.2; clear h
  simp [go_sem]
  have hgc := gaps_cells w1 rfl
  have hcg : Chg (fun _ => False) w1 (w1.alloc (.cells (gapsL.map Value.string).toArray 9)) := (Chg.refl _ _).alloc _
  have hsg : (w1.alloc (.cells (gapsL.map Value.string).toArray 9)).heap.size = w1.heap.size + 1 := by simp
  have e : (Obj.cells (gapsL.map Value.string).toArray 9) = Obj.cells #[Value.string { data := #[32] }, Value.string { data := #[10] }, Value.string { data := #[9, 32, 13, 10] }, Value.string { data := #[32, 35, 32, 97, 32, 39, 98, 32, 37, 99, 10] }, Value.string { data := #[35, 10, 10] }, Value.string { data := #[32, 32] }] 9 := rfl
  rw [e] at hgc hcg hsg
  generalize w1.alloc _ = w2 at hgc hcg hsg ⊢
  have hs1 := hc1.size
  have hc2 := hc1.trans hcg
  generalize hgb : w1.heap.size = gb at hgc hsg hs1 ⊢
  -- behind the loop
  have over : ∀ (T : ByteArray) (L : List Wd) (v : Value) (k : Nat) (W : World), k ≤ 200 → SpI w W gb w2.heap.size k T L v → law03_ScanSpread.b14 R (.slice A ps.length c) (.string T) v W := by
    intro T L v k W hk h
    have hsz := h.sz
    have hsW := h.chg.size
    have last : ∀ b : Bool, law03_ScanSpread.b15 R (.string T) v (.bool b) W := by
      intro b
      have ho : W.ownsRow w2.heap.size 36 3 v L.length (L.flatMap encW) := by rw [h.len]; exact h.own
      unfold law03_ScanSpread.b15
      cases b with
      | true =>
        have e1 : ¬ 9223372036854775807 < T.size + 15 := by omega
        simp [go_sem, e1]
        have hx := spread_end h.sp (behind_of tail_ok.1).1 tail_ok.2
        have hTs : (T ++ tailU).size = T.size + 15 := by rw [ByteArray.size_append]; rfl
        exact spread_last (T := T ++ tailU) hx (by omega) (hO.chg h.chg hB fun _ _ => id) (by omega) ho fun w' hc' => fin w' (h.chg.trans hc')
      | false =>
        simp [go_sem]
        have hx := spread_end (U := ⟨#[]⟩) (cm := false) h.sp (Or.inl rfl) rfl
        have hT0 : T ++ (⟨#[]⟩ : ByteArray) = T := by apply bs_ext; simp [ByteArray.data_append]
        rw [hT0] at hx
        exact spread_last (T := T) hx (by omega) (hO.chg h.chg hB fun _ _ => id) (by omega) ho fun w' hc' => fin w' (h.chg.trans hc')
    unfold law03_ScanSpread.b14
    simp [go_sem]
    refine SPL_intro (fun h1 => ?_) (fun h1 => ?_)
    · have hpos : 0 < ps.length := by simpa using h1
      obtain ⟨b, o, rfl, hp⟩ := piece_at (Rep.below ha (h.chg.below (Nat.le_refl _) fun _ _ => id)) hpos
      have k1 := hp.c1
      simp at k1
      simp [go_sem, hpos, k1]
      refine CALL_of (pick_ct hp.i1 (n := 3) (by omega) (by unfold maxLen; omega) W) ?_
      rintro _ _ ⟨rfl, rfl⟩
      simp [go_sem]
      exact last _
    · exact last false
  unfold law03_ScanSpread.b16
  refine law03_ScanSpread.l18_intro _ _ _ _ _ _ _ (fun x y z W => ∃ (T : ByteArray) (L : List Wd) (k : Nat), x = .string T ∧ z = .int .i64 k ∧ k ≤ ps.length ∧ k ≤ 200 ∧ SpI w W gb w2.heap.size k T L y) (fun _ _ z _ => 200 - iv z)
    ⟨⟨#[]⟩, [], 0, rfl, rfl, Nat.zero_le _, Nat.zero_le _, spread_nil, rfl, fun _ => rfl, Nat.le_refl _, World.ownsRow_nil _ _ _ _, hgc, hc2⟩ ?_
  rintro _ y _ W ⟨T, L, k, rfl, rfl, hkl, hk2, h⟩ C hC
  unfold law03_ScanSpread.b28
  simp [go_sem]
  refine SPL_intro (fun h1 => ?_) (fun h1 => ?_)
  · have hlt : k < ps.length := by simpa using h1
    simp [go_sem]
    unfold law03_ScanSpread.b29
    by_cases hk : k < 200
    rotate_left
    · have hkd : decide ((k : Int) < 200) = false := by simp; omega
      rw [hkd]
      exact over T L y k W hk2 h
    have hkd : decide ((k : Int) < 200) = true := by simp; omega
    rw [hkd]
    refine (show SPL (.bool true) _ _ from ?_)
    rw [SPL_true]
    unfold law03_ScanSpread.b23
    obtain ⟨b, o, rfl, hp⟩ := piece_at (Rep.below ha (h.chg.below (Nat.le_refl _) fun _ _ => id)) hlt
    generalize ps[k] = x at hp
    simp [go_sem, hlt, hp.c0, hp.c1, hp.c2, hp.c3]
    refine CALL_of (made_ct hp.i0 hp.i1 hp.sz W) ?_
    rintro _ W1 ⟨⟨s, kd, txt, rfl, hw, hs18⟩, hcm⟩
    simp [go_sem]
    have hI1 := h.keep hcm
    have hp1 := hp.chg hcm
    have hca : Chg (fun _ => False) W1 (W1.alloc (.cells #[.int .i64 kd, .string txt, .int .i64 0] 36)) := (Chg.refl _ _).alloc _
    have hI2 := hI1.keep hca
    have hp2 := hp1.chg hca
    have ht : Tri (W1.alloc (.cells #[.int .i64 kd, .string txt, .int .i64 0] 36)) W1.heap.size kd txt 0 := by
      constructor <;> first | exact new_cell _ _ _ rfl _ | exact new_frozen _ _ _ rfl _
    have hso : y.ownBlock ≠ some W1.heap.size := fun e => by
      have := (ownsRow_block hI1.own e).2
      omega
    have hs2 : (W1.alloc (.cells #[.int .i64 kd, .string txt, .int .i64 0] 36)).heap.size = W1.heap.size + 1 := by simp
    have hw2W : w2.heap.size ≤ W.heap.size := by
      rcases Nat.lt_or_ge W.heap.size w2.heap.size with h9 | h9
      · have := World.block_lt_of_cell? _ _ (h.gap 0 _ rfl)
        simp at this
        omega
      · exact h9
    have hsm := hcm.size
    generalize hq : W1.heap.size = q at ht hso hs2 hsm ⊢
    generalize W1.alloc (.cells #[.int .i64 kd, .string txt, .int .i64 0] 36) = W2 at hI2 hp2 ht hs2 ⊢
    -- with these blanks ahead
    have put : ∀ G : ByteArray, gapRun (bytesN G) false = some false → ((G.size = 0 ∧ T.size = 0) ∨ Behind G ∧ 0 < G.size) → G.size ≤ 11 →
        law03_ScanSpread.b25 R C (.string (T ++ G)) y (.int .i64 k) (.string s) (.pointer (some ⟨q, 0, none⟩)) W2 := by
      intro G g1 g2 g3
      refine spread_put hI2 hk hw hs18 g1 g2 g3 ht ⟨by omega, by omega, by omega, fun e => hso e⟩ (by omega) (by omega) fun W' v' h' => ?_
      exact hC _ _ _ _ ⟨_, _, k + 1, rfl, by simp, by omega, by omega, h'⟩ (by simp [iv]; omega)
    have go : ∀ bb : Bool, (bb = false → k = 0) → law03_ScanSpread.b27 R C (.slice (some ⟨b, o, none⟩) ps.length c) (.slice (some ⟨gb, 0, none⟩) 6 6) (.string T) y (.int .i64 k) (.string s) (.pointer (some ⟨q, 0, none⟩)) (.bool bb) W2 := by
      intro bb hbb
      unfold law03_ScanSpread.b27
      cases bb with
      | false =>
        simp [go_sem]
        have hT0 : T ++ (⟨#[]⟩ : ByteArray) = T := by apply bs_ext; simp [ByteArray.data_append]
        have := put ⟨#[]⟩ rfl (Or.inl ⟨rfl, h.zero (hbb rfl)⟩) (by decide)
        rw [hT0] at this
        exact this
      | true =>
        simp [go_sem, hlt, hp2.c2]
        refine CALL_of (pick_ct hp2.i2 (n := 6) (by omega) (by unfold maxLen; omega) W2) ?_
        rintro _ _ ⟨rfl, rfl⟩
        obtain ⟨m, hm, hm6⟩ : ∃ m, m = pickN x.2.2.1 6 ∧ m < 6 := ⟨_, rfl, pickN_lt _ (by omega)⟩
        rw [← hm]
        clear hm
        have hmi : (m : Int) < 6 := by omega
        have hgl : gapsL.length = 6 := rfl
        have hge : gapsL[m]? = some (gapsL[m]'(by omega)) := List.getElem?_eq_getElem (by omega)
        have hgok := gaps_ok _ (List.getElem_mem (l := gapsL) (n := m) (by omega))
        have hcell := hI2.gap m _ hge
        generalize (gapsL[m]'(by omega)) = G at hge hgok hcell
        have hTsz := h.sz
        have e1 : ¬ 9223372036854775807 < T.size + G.size := by omega
        simp [go_sem, hm6, hmi, hcell, e1]
        exact put G hgok.2.1 (Or.inr (behind_of hgok.1)) hgok.2.2
    unfold law03_ScanSpread.b26
    simp [go_sem]
    refine SPL_intro (fun h5 => ?_) (fun h5 => ?_)
    · exact go true (fun h => by cases h)
    · have hk0 : k = 0 := by simp at h5; omega
      simp [go_sem, hlt, hp2.c2]
      refine CALL_of (pick_ct hp2.i2 (n := 2) (by omega) (by unfold maxLen; omega) W2) ?_
      rintro _ _ ⟨rfl, rfl⟩
      simp [go_sem]
      exact go _ (fun _ => hk0)
  · unfold law03_ScanSpread.b29
    simp [go_sem]
    exact over T L y k W hk2 h
end Go.Proofs.YtgjifldciinehaaDoor
