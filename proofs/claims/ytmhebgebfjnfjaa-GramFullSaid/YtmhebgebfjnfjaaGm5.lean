/-
  A builder in memory.
-/
import Derived.Test.YtmhebgebfjnfjaaGm4
namespace Go.Px.Scan
/-- A builder's state. -/
structure BS where
  terms : List (ByteArray × Int)
  nons : List ByteArray
  levels : List Int
  rules : List (Int × List Int × Int)
  start : Int
/-- What always holds of one. -/
structure BSok (S : BS) : Prop where
  syms : S.terms.length + S.nons.length ≤ 64
  tnam : ∀ t ∈ S.terms, TermP t.1
  nnam : ∀ t ∈ S.nons, NameP t
  tnd : (S.terms.map (·.1)).Nodup
  nnd : S.nons.Nodup
  lev : S.levels.length ≤ S.terms.length
  grd : ∀ t ∈ S.terms, 0 ≤ t.2 ∧ t.2 ≤ S.levels.length
  prods : S.rules.length ≤ 96
end Go.Px.Scan

namespace Go.Proofs.Ytmhebgebfjnfjaa
open Go.Px Go.Px.Scan Go.RowKit
set_option maxHeartbeats 1000000
attribute [-go_sem] Builtin.append_
set_option linter.unusedSimpArgs false

/-- The right side of a rule. -/
structure RightAt (w : World) (T : Nat → Nat) (v : Value) (l : List Int) : Prop where
  rd : (rSlice rInt).at1 w w.heap.size v l
  tg : l ≠ [] → ∀ i, v.ownBlock = some i → T i = 9

theorem RightAt.keep {F : Nat → Prop} {w w' : World} {T T' : Nat → Nat} {v : Value} {l : List Int} (h : RightAt w T v l) (hc : Chg F w w') (hF : ∀ i, T i = 9 → ¬ F i) (hT : ∀ i, i < w.heap.size → T' i = T i) : RightAt w' T' v l := by
  obtain ⟨⟨A, c, hv, h1, h2, h3, h4⟩, ht⟩ := h
  injection hv with hv
  subst hv
  refine ⟨⟨A, c, rfl, h1, h2, h3, fun hpos => ?_⟩, fun hne i hi => ?_⟩
  · obtain ⟨b, o, rfl, hb, hcell⟩ := h4 hpos
    have htb := ht (fun e => by rw [e] at hpos; simp at hpos) b rfl
    refine ⟨b, o, rfl, Nat.lt_of_lt_of_le hb hc.size, fun i x hi => ?_⟩
    obtain ⟨ys, hy, hj⟩ := hcell i x hi
    exact ⟨ys, hy, fun j u hu => (hc.cell (p := ⟨b, o + (i * rInt.size + j), none⟩) hb (hF b htb)).trans (hj j u hu)⟩
  · have hpos : 0 < l.length := by cases l with
      | nil => exact absurd rfl hne
      | cons x r => simp
    obtain ⟨b, o, rfl, hb, _⟩ := h4 hpos
    have htb := ht hne b rfl
    injection hi with hi
    rw [← hi, hT b hb]; exact htb

def ruleC (r : Int × List Int × Int) (v : Value) : List Value := [.int .i64 r.1, v, .int .i64 r.2.2]

structure BV where
  vt : Value
  vm : Value
  vn : Value
  vk : Value
  vg : Value
  vl : Value
  vr : Value
  rs : List Value

structure Bld (w : World) (T : Nat → Nat) (b : Nat) (V : BV) (S : BS) : Prop where
  tag : T b = 1
  lt : ∀ i, T i ≠ 0 → i < w.heap.size
  terms : Nm w T b 0 2 3 V.vt V.vm (S.terms.map (·.1))
  nons : Nm w T b 2 4 5 V.vn V.vk S.nons
  cg : w.cell? ⟨b, 4, none⟩ = some V.vg
  cl : w.cell? ⟨b, 5, none⟩ = some V.vl
  cr : w.cell? ⟨b, 6, none⟩ = some V.vr
  cs : w.cell? ⟨b, 7, none⟩ = some (.int .i64 S.start)
  fz : ∀ j, j < 8 → w.frozen? ⟨b, j, none⟩ = false
  graded : Row w T 6 3 1 V.vg S.terms.length (S.terms.map fun t => .int .i64 t.2)
  levels : Row w T 7 3 1 V.vl S.levels.length (S.levels.map (.int .i64 ·))
  rules : Row w T 8 86 3 V.vr S.rules.length ((S.rules.zip V.rs).flatMap fun x => ruleC x.1 x.2)
  rlen : V.rs.length = S.rules.length
  rights : ∀ (i : Nat) r v, S.rules[i]? = some r → V.rs[i]? = some v → RightAt w T v r.2.1
  ok : BSok S

/-- Nothing of a builder has turned. -/
theorem Bld.keep {F : Nat → Prop} {w w' : World} {T : Nat → Nat} {b : Nat} {V : BV} {S : BS} (h : Bld w T b V S) (hc : Chg F w w') (hF : ∀ i, T i ≠ 0 → ¬ F i) : Bld w' T b V S := by
  have hb : b < w.heap.size := h.lt b (by rw [h.tag]; omega)
  have hFb : ¬ F b := hF b (by rw [h.tag]; omega)
  have ht : ∀ k, k ≠ 0 → ∀ i, T i = k → ¬ F i := fun k hk i hi => hF i (by omega)
  exact ⟨h.tag, fun i hi => Nat.lt_of_lt_of_le (h.lt i hi) hc.size, h.terms.keep hc hFb (ht 2 (by omega)) (ht 3 (by omega)) (fun _ _ => rfl), h.nons.keep hc hFb (ht 4 (by omega)) (ht 5 (by omega)) (fun _ _ => rfl),
    hc.at h.cg hFb, hc.at h.cl hFb, hc.at h.cr hFb, hc.at h.cs hFb, fun j hj => (hc.frozen (p := ⟨b, j, none⟩) hb hFb).trans (h.fz j hj),
    h.graded.keep hc (ht 6 (by omega)) (fun _ _ => rfl), h.levels.keep hc (ht 7 (by omega)) (fun _ _ => rfl), h.rules.keep hc (ht 8 (by omega)) (fun _ _ => rfl), h.rlen,
    fun i r v hr hv => (h.rights i r v hr hv).keep hc (ht 9 (by omega)) (fun _ _ => rfl), h.ok⟩

/-- What an operation leaves. -/
structure After (w : World) (T : Nat → Nat) (b : Nat) (S' : BS) (w' : World) : Prop where
  ex : ∃ T' V', Bld w' T' b V' S' ∧ (∀ i, i < w.heap.size → T' i = T i)
  chg : Chg (fun i => T i ≠ 0) w w'

theorem After.same {w w' : World} {T : Nat → Nat} {b : Nat} {V : BV} {S : BS} (h : Bld w T b V S) (hc : Chg (fun _ => False) w w') : After w T b S w' :=
  ⟨⟨T, V, h.keep hc (fun _ _ => id), fun _ _ => rfl⟩, hc.mono fun _ _ h => h.elim⟩

theorem Nm.fr {J F : Nat → Prop} {w w' : World} {T T' : Nat → Nat} {b o tx tm : Nat} {v m : Value} {l : List ByteArray} (h : Nm w T b o tx tm v m l) (hf : Fr b J F w w') (ho : ¬ J o) (ho1 : ¬ J (o + 1)) (hx : ∀ i, T i = tx → ¬ (i = b ∨ F i)) (hm : ∀ i, T i = tm → ¬ (i = b ∨ F i)) (hT : ∀ i, i < w.heap.size → T' i = T i) : Nm w' T' b o tx tm v m l :=
  ⟨(hf.cell o ho).trans h.c0, (hf.cell (o + 1) ho1).trans h.c1, (hf.frz o).trans h.f0, (hf.frz (o + 1)).trans h.f1,
    h.row.keep hf.chg hx hT, h.map.chg hf.chg fun i hi => hm i (h.tag i hi), fun i hi => by rw [hT i (h.map.lt hi)]; exact h.tag i hi⟩

/-- What Term answers, and leaves. -/
noncomputable def termA (S : BS) (s : ByteArray) : Int × Int × BS :=
  if tmB s = false then (0, 1, S)
  else if posH (S.terms.map (·.1)) s ≠ 0 then (posH (S.terms.map (·.1)) s, 0, S)
  else if 64 ≤ S.terms.length + S.nons.length then (0, 11, S)
  else ((S.terms.length : Int) + 1, 0, { S with terms := S.terms ++ [(s, 0)] })

theorem info_int : (Try.prog.info? 3).map (fun i => (i.zero, i.size, i.bytes)) = some (some (.int .i64 0), 1, 8) := by kernel_rfl
theorem posH_pos (l : List ByteArray) (s : ByteArray) : 0 ≤ posH l s := by unfold posH; split <;> omega

set_option maxRecDepth 100000 in
theorem term3_ok {R : Ending → World → Prop} {w w1 : World} {T : Nat → Nat} {b : Nat} {V : BV} {S : BS} (h : Bld w T b V S) {s : ByteArray} (hs : s.size ≤ maxLen) (htp : TermP s) (ht : tmB s = true) (hc1 : Chg (fun _ => False) w w1)
    (hR : ∀ v w', v = .tuple #[.int .i64 (termA S s).1, .int .i64 (termA S s).2.1] ∧ After w T b (termA S s).2.2 w' → R (.returned v) w') : gram_Builder_Term.b3 R (.pointer (some ⟨b, 0, none⟩)) (.string s) w1 := by
  have hsy := h.ok.syms
  have hbw : b < w.heap.size := h.lt b (by rw [h.tag]; omega)
  unfold gram_Builder_Term.b3
  have h1 := h.keep hc1 (fun _ _ => id)
  simp [go_sem]
  refine CALL_of (find_ct h1.terms hs) ?_
  rintro _ _ ⟨rfl, rfl⟩
  simp [go_sem]
  have hpp := posH_pos (S.terms.map (·.1)) s
  refine SPL_intro (fun h2 => ?_) (fun h2 => ?_) <;> simp at h2
  · have ha : termA S s = (posH (S.terms.map (·.1)) s, 0, S) := by unfold termA; rw [if_neg (by simp [ht]), if_pos (by omega)]
    rw [ha] at hR
    exact hR _ _ ⟨rfl, After.same h hc1⟩
  · have hz : posH (S.terms.map (·.1)) s = 0 := by omega
    have hno : s ∉ S.terms.map (·.1) := posH_zero.1 hz
    simp [go_sem]
    have h1d := h1.keep (F := fun _ => False) (Chg.refl _ _).drew (fun _ _ => id)
    refine CALL_of (size_ct h1d.terms) ?_
    rintro _ _ ⟨rfl, rfl⟩
    refine CALL_of (size_ct h1d.nons) ?_
    rintro _ _ ⟨rfl, rfl⟩
    have wsum : IntKind.i64.wrap (((S.terms.map (·.1)).length : Int) + S.nons.length) = ((S.terms.map (·.1)).length : Int) + S.nons.length := IntWalk.i64_in _ (by rw [List.length_map]; omega)
    rw [List.length_map] at wsum ⊢
    simp [go_sem, wsum]
    refine SPL_intro (fun h3 => ?_) (fun h3 => ?_) <;> simp at h3
    · have ha : termA S s = (0, 11, S) := by unfold termA; rw [if_neg (by simp [ht]), if_neg (by simp [hz]), if_pos (by omega)]
      rw [ha] at hR
      exact hR _ _ ⟨rfl, After.same h hc1.drew⟩
    · have ha : termA S s = ((S.terms.length : Int) + 1, 0, { S with terms := S.terms ++ [(s, 0)] }) := by unfold termA; rw [if_neg (by simp [ht]), if_neg (by simp [hz]), if_neg (by omega)]
      rw [ha] at hR
      obtain ⟨a, c, hv⟩ := row_len h1.graded
      have hcg := h1.cg
      rw [hv] at hcg
      simp [go_sem, hcg]
      obtain ⟨i0, hi, hz0, hz1, hz2⟩ := info_parts info_int
      have hc2 : Chg (fun _ => False) w1 (w1.alloc (Obj.cells #[Value.int IntKind.i64 0] 3)).drew := ((Chg.refl _ _).alloc _).drew
      have h2 := h1.keep hc2 (fun _ _ => id)
      have hn : ∀ j u, ([.int .i64 0] : List Value)[j]? = some u → (w1.alloc (Obj.cells #[Value.int IntKind.i64 0] 3)).drew.cell? ((⟨w1.heap.size, 0, none⟩ : Addr).add j) = some u := by
        intro j u hj
        simpa using alloc_cells w1 [.int .i64 0] 3 rfl j u hj
      have hs2 := hc2.size
      generalize (w1.alloc (Obj.cells #[Value.int IntKind.i64 0] 3)).drew = w2 at hc2 h2 hn hs2 ⊢
      have hrow := h2.graded.1
      rw [hv] at hrow
      refine append_own 30 30 3 Try.underlying30 hi hz0 hz1 hz2 rfl (by omega) hrow rfl hn ?_ (by unfold maxLen; omega) (by unfold maxBytes; omega) (Nat.zero_le _) ?_
      · intro u hu
        simp at hu
        subst hu; rfl
      intro g c3 w3 ho3 hg3 hgb
      have hgt : (Value.slice a S.terms.length c).ownBlock = some g → T g = 6 := fun e => h2.graded.2 g (by rw [hv]; exact e)
      have hc3 : Chg (fun i => T i = 6) w2 w3 := grown_chg hg3 fun k hk => h2.graded.2 k (by rw [hv]; exact hk)
      have hs3 := hc3.size
      have hw2 : b < w2.heap.size := h2.lt b (by rw [h.tag]; omega)
      have htb : T b ≠ 6 := by rw [h.tag]; omega
      have hgb' : g ≠ b := by
        rcases hgb with hgb | hgb
        · intro e; exact htb (by rw [← e]; exact hgt hgb)
        · omega
      have k4 := hc3.at h2.cg htb
      have kf4 := (hc3.frozen (p := ⟨b, 4, none⟩) hw2 htb).trans (h2.fz 4 (by omega))
      simp [go_sem, k4, kf4]
      have hF4 : Fr b (fun j => j = 4) (fun i => T i = 6) w2 (w3.setCell ⟨b, 4, none⟩ (.slice (some ⟨g, 0, none⟩) (S.terms.length + 1) c3)) :=
        (Fr.of hc3 hw2 htb (fun i _ h => h)).trans (Fr.set (J := fun j => j = 4) (j := 4) rfl _)
      have kc4 : (w3.setCell ⟨b, 4, none⟩ (.slice (some ⟨g, 0, none⟩) (S.terms.length + 1) c3)).cell? ⟨b, 4, none⟩ = some (.slice (some ⟨g, 0, none⟩) (S.terms.length + 1) c3) := World.cell?_setCell_same _ _ _ k4
      have hc4 : Chg (· = b) w3 (w3.setCell ⟨b, 4, none⟩ (.slice (some ⟨g, 0, none⟩) (S.terms.length + 1) c3)) := (Chg.refl (· = b) w3).setCell (p := ⟨b, 4, none⟩) (Or.inl rfl) _
      have hs4 : (w3.setCell ⟨b, 4, none⟩ (.slice (some ⟨g, 0, none⟩) (S.terms.length + 1) c3)).heap.size = w3.heap.size := by simp
      have ho4 := ownsRow_keep ho3 hc4 (fun i hi he => by injection hi with hi; exact hgb' (hi.trans he))
      have hg4 := (ownsRow_block ho4 (k := g) rfl).2
      generalize w3.setCell ⟨b, 4, none⟩ (.slice (some ⟨g, 0, none⟩) (S.terms.length + 1) c3) = w4 at hF4 kc4 hs4 ho4 hg4 ⊢
      have hT1 : ∀ i, i < w2.heap.size → (fun i => if i = g then 6 else T i) i = T i := by
        intro i hi
        by_cases e : i = g
        · rcases hgb with hgb | hgb
          · simp [e]; exact (hgt hgb).symm
          · omega
        · simp [e]
      generalize hT1d : (fun i => if i = g then 6 else T i) = T1 at hT1
      have hT1g : ∀ i, T1 i = if i = g then 6 else T i := fun i => by rw [← hT1d]
      have ne : ∀ k, k ≠ 1 → k ≠ 6 → ∀ i, T i = k → ¬ (i = b ∨ T i = 6) := fun k h1' h6 i hi he => by
        rcases he with he | he
        · rw [he, h.tag] at hi; omega
        · omega
      have hb1 : T1 b = 1 := by rw [hT1 b hw2]; exact h.tag
      have hsz16 : s.size ≤ 1000 := by have := htp.2.1; omega
      have ht4 := h2.terms.fr hF4 (by omega) (by omega) (ne 2 (by omega) (by omega)) (ne 3 (by omega) (by omega)) hT1
      refine CALL_of (intern_ct ht4 hsz16 hno (by rw [List.length_map]; omega) (fun i hi => ?_) (by omega) (by omega) (by omega) (by rw [hb1]; omega) (by rw [hb1]; omega)) ?_
      · by_cases e : i = g
        · rw [e]; exact hg4
        · have := h2.lt i (by rw [hT1g i, if_neg e] at hi; exact hi)
          omega
      rintro _ w5 ⟨rfl, T5, v5, m5, hN⟩
      have hb4 : b < w4.heap.size := by omega
      have hT5 : ∀ i, i < w2.heap.size → T5 i = T i := fun i hi => (hN.old i (by omega)).trans (hT1 i hi)
      have ne1 : ∀ k, k ≠ 1 → k ≠ 2 → k ≠ 3 → ∀ i, T1 i = k → ¬ (i = b ∨ (T1 i = 2 ∨ T1 i = 3)) := fun k h1' h2' h3' i hi he => by
        rcases he with he | he
        · rw [he, hb1] at hi; omega
        · omega
      have hF45 : Fr b (fun j => j = 4 ∨ j = 0 ∨ j = 1) (fun i => T i = 6 ∨ T i = 2 ∨ T i = 3) w2 w5 :=
        (hF4.mono (fun j hj => Or.inl hj) (fun i hi => Or.inl hi)).trans' (hN.fr.mono (fun j hj => by omega) (fun i hi => hi)) (fun i hi hg => by rw [hT1 i hi] at hg; exact Or.inr hg)
      have neA : ∀ k, k ≠ 1 → k ≠ 2 → k ≠ 3 → k ≠ 6 → ∀ i, T i = k → ¬ (i = b ∨ (T i = 6 ∨ T i = 2 ∨ T i = 3)) := fun k h1' h2' h3' h6' i hi he => by
        rcases he with he | he
        · rw [he, h.tag] at hi; omega
        · omega
      refine hR _ _ ⟨?_, ⟨T5, { V with vt := v5, vm := m5, vg := .slice (some ⟨g, 0, none⟩) (S.terms.length + 1) c3 }, ⟨?_, hN.lt, ?_, ?_, ?_, ?_, ?_, ?_, ?_, ?_, ?_, ?_, h2.rlen, ?_, ?_⟩, ?_⟩, ?_⟩
      · simp
      · rw [hT5 b hw2]; exact h.tag
      · rw [List.map_append]; exact hN.nm
      · exact h2.nons.fr hF45 (by omega) (by omega) (neA 4 (by omega) (by omega) (by omega) (by omega)) (neA 5 (by omega) (by omega) (by omega) (by omega)) hT5
      · exact (hN.fr.cell 4 (by omega)).trans kc4
      · exact (hF45.cell 5 (by omega)).trans h2.cl
      · exact (hF45.cell 6 (by omega)).trans h2.cr
      · exact (hF45.cell 7 (by omega)).trans h2.cs
      · exact fun j hj => (hF45.frz j).trans (h2.fz j hj)
      · have hr4 : Row w4 T1 6 3 1 (.slice (some ⟨g, 0, none⟩) (S.terms.length + 1) c3) (S.terms.length + 1) ((S.terms.map fun t => .int .i64 t.2) ++ [.int .i64 0]) :=
          ⟨ho4, fun i hi => by injection hi with hi; rw [hT1g, if_pos hi.symm]⟩
        have := hr4.keep (T' := T5) hN.fr.chg (ne1 6 (by omega) (by omega) (by omega)) hN.old
        rw [List.length_append, List.map_append]
        exact this
      · have := h2.levels.keep (T' := T5) hF45.chg (neA 7 (by omega) (by omega) (by omega) (by omega)) hT5
        exact this
      · exact h2.rules.keep (T' := T5) hF45.chg (neA 8 (by omega) (by omega) (by omega) (by omega)) hT5
      · exact fun i r v hr hv => (h2.rights i r v hr hv).keep hF45.chg (neA 9 (by omega) (by omega) (by omega) (by omega)) hT5
      · refine ⟨?_, ?_, h.ok.nnam, ?_, h.ok.nnd, ?_, ?_, h.ok.prods⟩
        · simp; omega
        · intro t ht; simp at ht; rcases ht with ht | rfl
          · exact h.ok.tnam t ht
          · exact htp
        · rw [List.map_append]
          refine List.nodup_append.2 ⟨h.ok.tnd, by simp, fun a' ha' b' hb' => ?_⟩
          simp at hb'; subst hb'
          intro e; subst e; exact hno ha'
        · have := h.ok.lev; simp; omega
        · intro t ht; simp at ht; rcases ht with ht | rfl
          · exact h.ok.grd t ht
          · simp
      · exact fun i hi => hT5 i (by have := hc1.size; omega)
      · refine ((hc1.trans hc2).mono fun _ _ h => h.elim).trans (hF45.chg.mono fun i hi he => ?_)
        rcases he with he | he
        · rw [he, h.tag]; omega
        · omega

set_option maxRecDepth 100000 in
theorem Term_ct {w : World} {T : Nat → Nat} {b : Nat} {V : BV} {S : BS} (h : Bld w T b V S) {s : ByteArray} (hs : s.size ≤ maxLen) :
    Ct Try.prog gram_Builder_Term.id #[.pointer (some ⟨b, 0, none⟩), .string s] w fun v w' => v = .tuple #[.int .i64 (termA S s).1, .int .i64 (termA S s).2.1] ∧ After w T b (termA S s).2.2 w' := by
  refine gram_Builder_Term.ct fun R hR => ?_
  have hbw : b < w.heap.size := h.lt b (by rw [h.tag]; omega)
  have hsy := h.ok.syms
  cases ht : tmB s with
  | false =>
    have ha : termA S s = (0, 1, S) := by unfold termA; rw [if_pos ht]
    rw [ha] at hR
    unfold gram_Builder_Term.run gram_Builder_Term.b1 gram_Builder_Term.b4
    simp [go_sem]
    refine CALL_of (isTerm_ct hs w) ?_
    rintro _ w1 ⟨rfl, hc1⟩
    rw [ht]
    simp [go_sem]
    unfold gram_Builder_Term.b5
    simp [go_sem]
    exact hR _ _ ⟨rfl, After.same h hc1⟩
  | true =>
    have htp : TermP s := tmB_iff.1 ht
    unfold gram_Builder_Term.run gram_Builder_Term.b1 gram_Builder_Term.b4
    simp [go_sem]
    refine CALL_of (isTerm_ct hs w) ?_
    rintro _ w1 ⟨rfl, hc1⟩
    rw [ht]
    simp [go_sem]
    unfold gram_Builder_Term.b5
    simp [go_sem]
    refine term3_ok h hs htp ht hc1 hR
end Go.Proofs.Ytmhebgebfjnfjaa
