/-
  Texts of this claim: Ee2, Ee3, Ee4, Ea3, Ee5, Ee6, Ee7, Ee8.
-/
import Derived.Test.YtkacbjhiobnbfaaY15
import Derived.Test.YtkacbjhiobnbfaaY14
import Derived.Test.YtkacbjhiobnbfaaY03
/-
  The document's answer for reach: Marks.
-/
namespace Go.Px.Scan
open Go.Px
def cntF (ms : List Bool) : Nat := ms.countP (! ·)
theorem cntF_set {ms : List Bool} {j : Nat} (h : j < ms.length) (hf : ms[j] = false) : cntF (ms.set j true) + 1 = cntF ms := by
  unfold cntF
  have h1 : 0 < ms.countP (! ·) := List.countP_pos_iff.2 ⟨ms[j], List.getElem_mem h, by simp [hf]⟩
  rw [List.countP_set h]
  simp [hf]
  omega
/-- One of a production's marks is not missing. -/
def ClP (nT : Int) (ms : List Bool) (p : Int × List Int × Int) : Prop := p.2.1.all (okS nT ms) = true → okS nT ms p.1 = true
theorem ClosedP.syms' {g : Gr} (h : ClosedP g) : ∀ p ∈ g.prods, ((g.terms.length : Int) ≤ p.1 ∧ p.1 < g.terms.length + g.nons.length) ∧ ∀ x ∈ p.2.1, 1 ≤ x ∧ x < g.terms.length + g.nons.length := by
  intro p hp
  have hd := h.prods.each
  have ha := h.added
  cases hq : g.prods with
  | nil => rw [hq] at hp; cases hp
  | cons a b =>
    rw [hq] at hp hd ha
    rcases List.mem_cons.1 hp with rfl | hp
    · injection ha with ha
      have h1 := h.syms.n0
      have h2 := h.prods.s1
      have h3 := h.prods.s0
      rw [ha]
      refine ⟨⟨Int.le_refl _, by show (g.terms.length : Int) < _; omega⟩, fun x hx => ?_⟩
      simp at hx
      subst hx
      omega
    · have := hd p (by simpa using hp)
      have h1 := this.l0
      have h2 := this.l1
      exact ⟨⟨by omega, h2⟩, fun x hx => ⟨(this.right x hx).1, (this.right x hx).2.1⟩⟩
end Go.Px.Scan
namespace Go.Proofs.Ytkacbjhiobnbfaa
open Go.Px Go.Px.Scan Go.RowKit
set_option maxHeartbeats 1000000
set_option linter.unusedSimpArgs false
set_option linter.unusedVariables false
set_option maxRecDepth 100000
attribute [-go_sem] Builtin.append_ ref06_Marks.b3 ref06_Marks.b14 ref06_Marks.b17 ref06_Marks.b4 ref06_Marks.b9

theorem Marks_ct {w : World} {B : Nat} {vg : Value} {g : Gr} (hg : rGram.atN w B vg g) (hB : B ≤ w.heap.size) (hcl : ClosedP g) :
    Ct Try.prog ref06_Marks.id #[vg] w fun v w' => ∃ m ms, v = .slice (some ⟨m, 0, none⟩) ms.length ms.length ∧ ms.length = g.nons.length ∧ St noB w w' [rowC 4 1 (some ⟨m, 0, none⟩) ms.length ms.length (boolV ms)] ∧ ∀ p ∈ g.prods, ClP g.terms.length ms p := by
  refine ref06_Marks.ct fun R hR => ?_
  obtain ⟨A1, c1, A2, c2, A3, c3, A4, c4, rfl, ⟨m1, m2, m3, m4⟩, hst, hc0, hgr⟩ := box_all hg hB
  have hr4 := (hgr _ (Chg.refl _ _)).r4
  have hr4 : (rSlice rPr).at1 w B (.slice A4 g.prods.length c4) g.prods := by obtain ⟨_, _, _, _, _, _, _, _, e, _, _, _, _, h5, _⟩ := (rGram_open hg).ex; injection e with e; injection e with e; simp at e; rw [e.2.2.2.1, e.2.2.2.2]; exact h5
  have hT := hcl.syms.t1
  have hN := hcl.syms.n1
  have s1 := (St.refl noB w).alloc #[.slice A1 g.terms.length c1, .slice A2 g.nons.length c2, .slice A3 g.levels.length c3, .int .i64 g.start, .slice A4 g.prods.length c4] 27
  unfold ref06_Marks.run
  simp -dsimp [go_sem]
  generalize w.alloc (.cells #[.slice A1 g.terms.length c1, .slice A2 g.nons.length c2, .slice A3 g.levels.length c3, .int .i64 g.start, .slice A4 g.prods.length c4] 27) = w1 at s1 hc0 hgr ⊢
  generalize w.heap.size = q at s1 hgr ⊢
  have y1 := (hgr w1 (Chg.refl _ _)).k
  have s2 := s1.lit 4 1 g.nons.length (Array.replicate g.nons.length (Value.bool false)) (by unfold maxLen; omega) (by simp)
  simp -dsimp [go_sem, y1, mkFlags w1 g.nons.length (by unfold maxBytes; omega)]
  have e0 : (Array.replicate g.nons.length (Value.bool false)).toList = boolV (List.replicate g.nons.length false) := by simp [boolV]
  rw [e0] at s2
  generalize w1.alloc (.cells (Array.replicate g.nons.length (Value.bool false)) 4) = w2 at s2 ⊢
  generalize w1.heap.size = m at s2 ⊢
  obtain ⟨N, hNe⟩ : ∃ N, g.nons.length = N := ⟨_, rfl⟩
  rw [hNe] at s2 hg ⊢
  obtain ⟨CB, hCB⟩ : ∃ CB, boxC q 27 [.slice A1 g.terms.length c1, .slice A2 N c2, .slice A3 g.levels.length c3, .int .i64 g.start, .slice A4 g.prods.length c4] = CB := ⟨_, rfl⟩
  have s2' : St noB w w2 [CB, rowC 4 1 (some ⟨m, 0, none⟩) N N (boolV (List.replicate N false))] := by rw [← hCB]; exact s2
  let J : Value → World → Nat → Prop := fun y w' f => ∃ (ag : Bool) (ms : List Bool), y = .bool ag ∧ ms.length = N ∧ (ag = false → ∀ p ∈ g.prods, ClP g.terms.length ms p) ∧ St noB w w' [CB, rowC 4 1 (some ⟨m, 0, none⟩) N N (boolV ms)] ∧ f = 2 * cntF ms + (if ag then 1 else 0)
  unfold ref06_Marks.b4
  refine ref06_Marks.l6_intro _ _ _ _ _ (fun y w' => ∃ f, J y w' f) (fun y w' => muOf (J y) w') ⟨_, true, List.replicate N false, rfl, by simp, by simp, s2', rfl⟩ ?_
  rintro y3 w3 hJ C hC
  have hJm := muOf_at hJ
  have hfin : ∀ y4 w4 f, J y4 w4 f → f < muOf (J y3) w3 → C y4 w4 := fun y4 w4 f h1 h2 => hC _ _ ⟨f, h1⟩ (Nat.lt_of_le_of_lt (muOf_le h1) h2)
  obtain ⟨ag, ms0, rfl, hl0, hag, s3, hf⟩ := hJm
  rw [hf] at hfin
  clear hf hC hJ s2 s2'
  cases ag with
  | false =>
    simp -dsimp [go_sem]
    unfold ref06_Marks.b3
    exact hR _ _ ⟨m, ms0, by rw [hl0], hl0.trans hNe.symm, by rw [hl0]; exact s3.pick [1] (by simp) rfl, hag rfl⟩
  | true =>
  simp -dsimp [go_sem]
  unfold ref06_Marks.b9
  refine ref06_Marks.l11_intro _ _ _ _ _ _ _ (fun x y w' => ∃ (ag : Bool) (i : Nat) (ms : List Bool), x = .bool ag ∧ y = .int .i64 i ∧ i ≤ g.prods.length ∧ ms.length = N ∧ (ag = false → ∀ p ∈ g.prods.take i, ClP g.terms.length ms p) ∧ St noB w w' [CB, rowC 4 1 (some ⟨m, 0, none⟩) N N (boolV ms)] ∧ cntF ms + (if ag then 1 else 0) ≤ cntF ms0) (fun _ y _ => g.prods.length - iv y)
    ⟨false, 0, ms0, rfl, rfl, by omega, hl0, by simp, s3, by simp⟩ ?_
  rintro _ _ w4 ⟨ag, i, ms, rfl, rfl, hi, hl, hcl4, s4, hcnt⟩ D hD
  have wi : IntKind.i64.wrap ((i : Int) + 1) = (i : Int) + 1 := IntWalk.i64_in _ (by have := hcl.prods.c1; omega)
  have y4 := s4.box 0 (by rw [← hCB]; rfl)
  simp [boxAt] at y4
  simp -dsimp [go_sem, y4]
  refine SPL_intro (fun p1 => ?_) (fun p1 => ?_) <;> simp at p1
  · obtain ⟨b, o, vr, rfl, hb, x1, x2, x3, hr, _⟩ := prods_at (Rep.below hr4 (s4.chg.below hB fun _ _ => id)) p1
    have hx := hcl.syms' g.prods[i] (List.getElem_mem p1)
    have et : g.prods.take (i + 1) = g.prods.take i ++ [g.prods[i]] := List.take_succ_eq_append_getElem p1
    obtain ⟨j, hj⟩ : ∃ j : Nat, g.prods[i].1 - (g.terms.length : Int) = j := ⟨(g.prods[i].1 - (g.terms.length : Int)).toNat, by omega⟩
    have hjl : j < N := by omega
    have wj : IntKind.i64.wrap (g.prods[i].1 - (g.terms.length : Int)) = (j : Int) := by rw [hj]; exact IntWalk.i64_in _ (by omega)
    have cmv : (boolV ms)[j]'(by rw [boolV_len, hl]; exact hjl) = .bool (ms[j]'(by omega)) := by simp [boolV]
    have hok : okS g.terms.length ms g.prods[i].1 = ms[j]'(by omega) := by
      unfold okS
      rw [decide_eq_false (by omega), hj, Bool.false_or, Int.toNat_natCast, List.getD_eq_getElem?_getD, List.getElem?_eq_getElem (by omega)]; rfl
    have hgo : ∀ w' (ag' : Bool) (ms' : List Bool), ms'.length = N → (ag' = false → ∀ p ∈ g.prods.take (i + 1), ClP g.terms.length ms' p) → St noB w w' [CB, rowC 4 1 (some ⟨m, 0, none⟩) N N (boolV ms')] → cntF ms' + (if ag' then 1 else 0) ≤ cntF ms0 → ref06_Marks.b14 R C D (.bool ag') (.int .i64 i) w' := by
      intro w' ag' ms' h1 h2 h3 h4
      unfold ref06_Marks.b14
      simp -dsimp [go_sem, wi]
      exact hD _ _ _ ⟨ag', i + 1, ms', rfl, by simp, by omega, h1, h2, h3, h4⟩ (by simp [iv]; omega)
    obtain ⟨Ar, cr, rfl, hrl, hrm, _⟩ := slice_form hr
    have s5 := s4.alloc #[.int .i64 g.prods[i].1, .slice Ar g.prods[i].2.1.length cr, .int .i64 g.prods[i].2.2] 47
    obtain ⟨gm, em, cm, fm⟩ := s5.rowAt 1 rfl (j := j) (by rw [boolV_len, hl]; exact hjl)
    injection em with em; injection em with em; subst em
    rw [cmv] at cm
    simp -dsimp [go_sem, y4, p1, x1, x2, x3, wj, hjl, cm]
    have hc5 : Chg noB w4 (w4.alloc (.cells #[.int .i64 g.prods[i].1, .slice Ar g.prods[i].2.1.length cr, .int .i64 g.prods[i].2.2] 47)) := (Chg.refl _ _).alloc _
    generalize w4.alloc (.cells #[.int .i64 g.prods[i].1, .slice Ar g.prods[i].2.1.length cr, .int .i64 g.prods[i].2.2] 47) = w5 at s5 cm fm hc5 ⊢
    generalize w4.heap.size = q5 at s5 ⊢
    have y5 := s5.box 0 (by rw [← hCB]; rfl)
    have z5 := s5.box 2 rfl
    simp [boxAt] at y5 z5
    cases hb : ms[j]'(by omega) with
    | true =>
      simp -dsimp [go_sem]
      unfold ref06_Marks.b17
      simp -dsimp [go_sem]
      refine hgo _ ag ms hl (fun h => ?_) (s5.take 2) hcnt
      rw [et]
      intro p hp
      rcases List.mem_append.1 hp with hp | hp
      · exact hcl4 h p hp
      · simp at hp; subst hp
        intro _
        rw [hok, hb]
    | false =>
      simp -dsimp [go_sem, y5, z5]
      have hbl : Below B w w5 := s5.chg.below hB fun _ _ => id
      refine CALL_of (Fits_ct s5 hl (k := 1) rfl (row := g.prods[i].2.1) (rGram_below hg hbl) (Rep.below hr ((hc5).below (by have := s4.chg.size; omega) fun _ _ => id)) (by have := s5.chg.size; omega) hT fun x hx2 => by have := (hx.2 x hx2).2; omega) ?_
      rintro _ w6 ⟨rfl, hc6⟩
      have s6 := s5.old hc6
      have y6 := s6.box 0 (by rw [← hCB]; rfl)
      have z6 := s6.box 2 rfl
      simp [boxAt] at y6 z6
      unfold ref06_Marks.b17
      cases hfit : g.prods[i].2.1.all (okS g.terms.length ms) with
      | false =>
        simp -dsimp [go_sem]
        refine hgo _ ag ms hl (fun h => ?_) (s6.take 2) hcnt
        rw [et]
        intro p hp
        rcases List.mem_append.1 hp with hp | hp
        · exact hcl4 h p hp
        · simp at hp; subst hp
          intro h9
          rw [hfit] at h9; cases h9
      | true =>
        obtain ⟨gm, em, cm6, fm6⟩ := s6.rowAt 1 rfl (j := j) (by rw [boolV_len, hl]; exact hjl)
        injection em with em; injection em with em; subst em
        simp -dsimp [go_sem, y6, z6, wj, hjl, cm6, fm6]
        have s7 := s6.setRow 1 rfl j (.bool true)
        have e7 : (boolV ms).set j (.bool true) = boolV (ms.set j true) := by simp [boolV, List.map_set]
        rw [e7] at s7
        have hcs := cntF_set (ms := ms) (j := j) (by omega) hb
        refine hgo _ true (ms.set j true) (by simp [hl]) (fun h => by cases h) (s7.take 2) (by cases ag <;> simp at hcnt ⊢ <;> omega)
  · have hie : i = g.prods.length := by omega
    subst hie
    rw [List.take_length] at hcl4
    refine hfin _ _ _ ⟨ag, ms, rfl, hl, hcl4, s4, rfl⟩ ?_
    cases ag <;> simp at hcnt ⊢ <;> omega
end Go.Proofs.Ytkacbjhiobnbfaa

/-
  The document's answer for reach: a chart in memory; add.
-/
namespace Go.Px
section
variable {G : Nat → Prop} {W w : World} {L : List Ch}
theorem St.inAll (h : St G W w L) (k : Nat) {L' : List Ch} (hk : L[k]? = some (Ch.all L')) : ∃ F, St F w w L' ∧ ∀ w' L'', St F w w' L'' → St G W w' (L.set k (Ch.all L'')) := by
  obtain ⟨F, ho, hF, hs⟩ := h.opn hk
  exact ⟨F, St.enter ho, fun w' L'' h' => hs w' _ h'.chg h'.leave⟩
end
end Go.Px
namespace Go.Px.Scan
open Go.Px
def spV (s : Spt) : List Value := [.int .i64 s.1, .int .i64 s.2.1, .int .i64 s.2.2]
def natI (l : List Nat) : List Value := l.map fun (n : Nat) => Value.int .i64 n
/-- What a chart holds, piece by piece. -/
def chL (cb : Nat) (vT vN : Value) (start : Int) (vP : Value) (P : Prl) (M : Nat) (R : List (Option Addr × Nat × List Spt)) (H : List (Nat × List Bool)) (aa : Option Addr) (ac : Nat) (ha : Option Addr) (hc : Nat) (ba : Option Addr) (bc : Nat) : List Ch :=
  [boxC cb 135 [vT, vN, .slice none 0 0, .int .i64 start, vP, .slice ha M hc, .slice aa M ac, .slice ba P.length bc, .int .i64 (off P P.length : Nat)],
   rowC 131 1 aa M ac (R.map fun x => .slice x.1 x.2.2.length x.2.1),
   rowC 68 1 ha M hc (H.map fun x => .slice (some ⟨x.1, 0, none⟩) (off P P.length * M) (off P P.length * M)),
   rowC 3 1 ba P.length bc (natI (baseL P)),
   Ch.all (R.map fun x => rowC 137 3 x.1 x.2.2.length x.2.1 (x.2.2.flatMap spV)),
   Ch.all (H.map fun x => rowC 4 1 (some ⟨x.1, 0, none⟩) (off P P.length * M) (off P P.length * M) (boolV x.2))]
/-- A chart's pure facts. -/
structure ChOk (P : Prl) (M : Nat) (R : List (Option Addr × Nat × List Spt)) (H : List (Nat × List Bool)) (at' : List (List Spt)) : Prop where
  rl : R.length = M
  hl : H.length = M
  ra : R.map (fun x => x.2.2) = at'
  pl : ∀ l ∈ at', PlOk P M l
  fl : ∀ i (h : i < M), FlOk P M (H[i]'(by rw [hl]; exact h)).2 (at'.getD i [])
/-- A chart. -/
def chartC (cb : Nat) (vT vN : Value) (start : Int) (vP : Value) (P : Prl) (M : Nat) (at' : List (List Spt)) : Ch :=
  Ch.ex fun x : (List (Option Addr × Nat × List Spt) × List (Nat × List Bool)) × (Option Addr × Nat) × (Option Addr × Nat) × (Option Addr × Nat) =>
    Ch.fact (ChOk P M x.1.1 x.1.2 at') (Ch.all (chL cb vT vN start vP P M x.1.1 x.1.2 x.2.1.1 x.2.1.2 x.2.2.1.1 x.2.2.1.2 x.2.2.2.1 x.2.2.2.2))
section
variable {G : Nat → Prop} {W w : World} {L : List Ch} {cb : Nat} {vT vN : Value} {start : Int} {vP : Value} {P : Prl} {M : Nat} {at' : List (List Spt)}
theorem _root_.Go.Px.St.chart (h : St G W w L) (k : Nat) (hk : L[k]? = some (chartC cb vT vN start vP P M at')) :
    ∃ F R H aa ac ha hc ba bc, ChOk P M R H at' ∧ St F w w (chL cb vT vN start vP P M R H aa ac ha hc ba bc) ∧
      ∀ w' at2 R H aa ac ha hc ba bc, ChOk P M R H at2 → St F w w' (chL cb vT vN start vP P M R H aa ac ha hc ba bc) → St G W w' (L.set k (chartC cb vT vN start vP P M at2)) := by
  obtain ⟨F, ⟨⟨⟨R, H⟩, ⟨aa, ac⟩, ⟨ha, hc⟩, ⟨ba, bc⟩⟩, hok, ho⟩, hF, hs⟩ := h.opn hk
  exact ⟨F, R, H, aa, ac, ha, hc, ba, bc, hok, St.enter ho, fun w' at2 R H aa ac ha hc ba bc hok' h' => hs w' _ h'.chg ⟨⟨⟨R, H⟩, ⟨aa, ac⟩, ⟨ha, hc⟩, ⟨ba, bc⟩⟩, hok', h'.leave⟩⟩
end
theorem ChOk.len {P : Prl} {M : Nat} {R : List (Option Addr × Nat × List Spt)} {H : List (Nat × List Bool)} {at' : List (List Spt)} (h : ChOk P M R H at') : at'.length = M := by rw [← h.ra, List.length_map, h.rl]
theorem ChOk.row {P : Prl} {M : Nat} {R : List (Option Addr × Nat × List Spt)} {H : List (Nat × List Bool)} {at' : List (List Spt)} (h : ChOk P M R H at') {i : Nat} (hi : i < M) : (R[i]'(by rw [h.rl]; exact hi)).2.2 = at'.getD i [] := by
  have := h.ra
  subst this
  rw [List.getD_eq_getElem?_getD, List.getElem?_map, List.getElem?_eq_getElem (by rw [h.rl]; exact hi)]; rfl
theorem ChOk.place {P : Prl} {M : Nat} {R : List (Option Addr × Nat × List Spt)} {H : List (Nat × List Bool)} {at' : List (List Spt)} (h : ChOk P M R H at') (i : Nat) : PlOk P M (at'.getD i []) := by
  by_cases hi : i < at'.length
  · rw [List.getD_eq_getElem?_getD, List.getElem?_eq_getElem hi]
    exact h.pl _ (List.getElem_mem hi)
  · rw [List.getD_eq_getElem?_getD, List.getElem?_eq_none (by omega)]
    exact ⟨by simp, by simp⟩
/-- One spot more. -/
def putS (at' : List (List Spt)) (pl : Nat) (s : Spt) : List (List Spt) := at'.set pl (at'.getD pl [] ++ [s])
theorem ChOk.put {P : Prl} {M : Nat} {R : List (Option Addr × Nat × List Spt)} {H : List (Nat × List Bool)} {at' : List (List Spt)} (h : ChOk P M R H at') {pl : Nat} (hp : pl < M) {s : Spt} (hs : sOk P M s) (hn : s ∉ at'.getD pl []) (a : Option Addr) (c : Nat) :
    ChOk P M (R.set pl (a, c, (R[pl]'(by rw [h.rl]; exact hp)).2.2 ++ [s])) (H.set pl ((H[pl]'(by rw [h.hl]; exact hp)).1, (H[pl]'(by rw [h.hl]; exact hp)).2.set (code P M s) true)) (putS at' pl s) := by
  have hlen := h.len
  refine ⟨by simp [h.rl], by simp [h.hl], ?_, ?_, ?_⟩
  · rw [List.map_set, h.ra, h.row hp]; rfl
  · intro l hl
    rcases List.mem_or_eq_of_mem_set hl with hl | rfl
    · exact h.pl l hl
    · exact (h.place pl).snoc hs hn
  · intro i hi
    by_cases e : i = pl
    · subst e
      simp only [List.getElem_set_self]
      have : (putS at' i s).getD i [] = at'.getD i [] ++ [s] := by
        rw [List.getD_eq_getElem?_getD, putS, List.getElem?_set_self (by omega)]; rfl
      rw [this]
      exact (h.fl i hi).snoc hs
    · simp only [List.getElem_set_ne (Ne.symm e)]
      have : (putS at' pl s).getD i [] = at'.getD i [] := by
        rw [List.getD_eq_getElem?_getD, List.getD_eq_getElem?_getD, putS, List.getElem?_set_ne (Ne.symm e)]
      rw [this]
      exact h.fl i hi
end Go.Px.Scan
namespace Go.Proofs.Ytkacbjhiobnbfaa
open Go.Px Go.Px.Scan Go.RowKit
set_option maxHeartbeats 1000000
set_option linter.unusedSimpArgs false
set_option linter.unusedVariables false
set_option maxRecDepth 100000
attribute [-go_sem] Builtin.append_ ref06_chart_add.b1_1

theorem RUN_to {X : Pan} {i : Sem Value} {w w' : World} {v : Value} {K : Value → World → Prop} (h : i.run Try.prog w = .ok v w') (Q : Value → World → Prop) (hq : Q v w') (hk : ∀ v w', Q v w' → K v w') : RUN Try.prog X i w K := by
  rw [RUN_eq, h, RES_ok]; exact hk _ _ hq
section
variable {F : Nat → Prop} {w w1 : World} {X : List Ch} {cb M : Nat} {vT vN vP : Value} {start : Int} {P : Prl} {at' : List (List Spt)} {RR : List (Option Addr × Nat × List Spt)} {H : List (Nat × List Bool)} {aa ha ba : Option Addr} {ac hc bc : Nat}
theorem chart_base (s : St F w w1 (chL cb vT vN start vP P M RR H aa ac ha hc ba bc ++ X)) {i : Nat} (hi : i < P.length) : ∃ gb, ba = some ⟨gb, 0, none⟩ ∧ w1.cell? ⟨gb, i, none⟩ = some (.int .i64 (off P i : Nat)) := by
  have hlP : i < (natI (baseL P)).length := by simp [natI, baseL]; exact hi
  obtain ⟨gb, eb, h1, _⟩ := s.rowAt 3 rfl (j := i) hlP
  have ebv : (natI (baseL P))[i]'hlP = .int .i64 (off P i : Nat) := by simp [natI, baseL]
  rw [ebv] at h1
  exact ⟨gb, eb, h1⟩
theorem chart_flag (s : St F w w1 (chL cb vT vN start vP P M RR H aa ac ha hc ba bc ++ X)) (hok : ChOk P M RR H at') {pl : Nat} (hp : pl < M) : ∃ gh, ha = some ⟨gh, 0, none⟩ ∧ w1.cell? ⟨gh, pl, none⟩ = some (.slice (some ⟨(H[pl]'(by rw [hok.hl]; exact hp)).1, 0, none⟩) (off P P.length * M) (off P P.length * M)) := by
  have hl : pl < (H.map fun x => Value.slice (some ⟨x.1, 0, none⟩) (off P P.length * M) (off P P.length * M)).length := by simp [hok.hl]; exact hp
  obtain ⟨gb, eb, h1, _⟩ := s.rowAt 2 rfl (j := pl) hl
  rw [List.getElem_map] at h1
  exact ⟨gb, eb, h1⟩
theorem chart_bit (s : St F w w1 (chL cb vT vN start vP P M RR H aa ac ha hc ba bc ++ X)) (hok : ChOk P M RR H at') {pl : Nat} (hp : pl < M) {sp : Spt} (hs : sOk P M sp) :
    w1.cell? ⟨(H[pl]'(by rw [hok.hl]; exact hp)).1, code P M sp, none⟩ = some (.bool (decide (sp ∈ at'.getD pl []))) ∧ w1.frozen? ⟨(H[pl]'(by rw [hok.hl]; exact hp)).1, code P M sp, none⟩ = false := by
  obtain ⟨F5, s5, _⟩ := s.inAll 5 (L' := H.map fun x => rowC 4 1 (some ⟨x.1, 0, none⟩) (off P P.length * M) (off P P.length * M) (boolV x.2)) rfl
  have hpl : pl < H.length := by rw [hok.hl]; exact hp
  have hfl := hok.fl pl hp
  have hlt := code_lt hs
  have hj : code P M sp < (boolV H[pl].2).length := by rw [boolV_len, hfl.1]; exact hlt
  obtain ⟨g, eg, h1, h2⟩ := s5.rowAt pl (by rw [List.getElem?_map, List.getElem?_eq_getElem hpl]; rfl) (j := code P M sp) hj
  injection eg with eg; injection eg with eg
  have hx := hfl.at (hok.place pl) hs
  have hv : (boolV H[pl].2)[code P M sp]'hj = .bool (decide (sp ∈ at'.getD pl [])) := by
    have h9 : (boolV H[pl].2)[code P M sp]? = some (.bool (decide (sp ∈ at'.getD pl []))) := by rw [boolV, List.getElem?_map, hx]; rfl
    rw [List.getElem?_eq_getElem hj] at h9
    injection h9
  rw [hv] at h1
  rw [eg]
  exact ⟨h1, h2⟩
theorem chart_at (s : St F w w1 (chL cb vT vN start vP P M RR H aa ac ha hc ba bc ++ X)) (hok : ChOk P M RR H at') {pl : Nat} (hp : pl < M) : ∃ ga, aa = some ⟨ga, 0, none⟩ ∧ w1.cell? ⟨ga, pl, none⟩ = some (.slice (RR[pl]'(by rw [hok.rl]; exact hp)).1 (at'.getD pl []).length (RR[pl]'(by rw [hok.rl]; exact hp)).2.1) ∧ w1.frozen? ⟨ga, pl, none⟩ = false := by
  have hl : pl < (RR.map fun x => Value.slice x.1 x.2.2.length x.2.1).length := by simp [hok.rl]; exact hp
  obtain ⟨gb, eb, h1, h2⟩ := s.rowAt 1 rfl (j := pl) hl
  rw [List.getElem_map, hok.row hp] at h1
  exact ⟨gb, eb, h1, h2⟩
end
theorem chart_hd {F : Nat → Prop} {w w1 : World} {X : List Ch} {cb M : Nat} {vT vN vP : Value} {start : Int} {P : Prl} {RR : List (Option Addr × Nat × List Spt)} {H : List (Nat × List Bool)} {ga : Nat} {ha ba : Option Addr} {ac hc bc : Nat}
    (s : St F w w1 (chL cb vT vN start vP P M RR H (some ⟨ga, 0, none⟩) ac ha hc ba bc ++ X)) {pl : Nat} (hp : pl < RR.length) : w1.cell? ⟨ga, pl, none⟩ = some (.slice RR[pl].1 RR[pl].2.2.length RR[pl].2.1) ∧ w1.frozen? ⟨ga, pl, none⟩ = false := by
  have hl : pl < (RR.map fun x => Value.slice x.1 x.2.2.length x.2.1).length := by simpa using hp
  obtain ⟨gb, eb, h1, h2⟩ := s.rowAt 1 rfl (j := pl) hl
  injection eb with eb; injection eb with eb; subst eb
  rw [List.getElem_map] at h1
  exact ⟨h1, h2⟩
theorem iSpt : (Try.prog.info? 137).map (fun i => (i.zero, i.size, i.bytes)) = some (some (.agg #[.int .i64 0, .int .i64 0, .int .i64 0]), 3, 24) := by kernel_rfl
theorem add_ct {G : Nat → Prop} {W w : World} {L : List Ch} (s : St G W w L) {k cb M : Nat} {vT vN vP : Value} {start : Int} {P : Prl} {at' : List (List Spt)} (hk : L[k]? = some (chartC cb vT vN start vP P M at'))
    {pl : Nat} (hp : pl < M) {sp : Spt} (hs : sOk P M sp) (hM : M ≤ 13) (hA : off P P.length ≤ 2000000) :
    Ct Try.prog ref06_chart_add.id #[.pointer (some ⟨cb, 0, none⟩), .int .i64 pl, .agg #[.int .i64 sp.1, .int .i64 sp.2.1, .int .i64 sp.2.2]] w fun v w' => v = .bool (decide (sp ∉ at'.getD pl [])) ∧ St G W w' (L.set k (chartC cb vT vN start vP P M (if sp ∈ at'.getD pl [] then at' else putS at' pl sp))) := by
  have p1 := hs.1
  have p2 := hs.2.1
  have p3 := hs.2.2
  have hcode := code_lt hs
  have hAM : off P P.length * M ≤ 26000000 := by have := Nat.mul_le_mul hA hM; omega
  have ho : off P sp.1 + sp.2.1 < off P P.length := by
    have := off_mono p1 (Nat.le_refl _)
    unfold rightOf at p2; omega
  have hlP : (natI (baseL P)).length = P.length := by simp [natI, baseL]
  have ebv : (natI (baseL P))[sp.1]'(by simp [natI, baseL]; exact p1) = .int .i64 (off P sp.1 : Nat) := by simp [natI, baseL]
  have w1' : IntKind.i64.wrap ((off P sp.1 : Int) + (sp.2.1 : Int)) = ((off P sp.1 + sp.2.1 : Nat) : Int) := by rw [IntWalk.i64_in _ (by omega)]; simp
  have w2' : IntKind.i64.wrap (((off P sp.1 + sp.2.1 : Nat) : Int) * (M : Int)) = (((off P sp.1 + sp.2.1) * M : Nat) : Int) := by
    have : (off P sp.1 + sp.2.1) * M ≤ 26000000 := by unfold code at hcode; omega
    rw [← Int.natCast_mul, IntWalk.i64_in _ (by omega)]
  have w3' : IntKind.i64.wrap ((((off P sp.1 + sp.2.1) * M : Nat) : Int) + (sp.2.2 : Int)) = (code P M sp : Int) := by
    have e : (((off P sp.1 + sp.2.1) * M : Nat) : Int) + (sp.2.2 : Int) = ((code P M sp : Nat) : Int) := by unfold code; rfl
    rw [e, IntWalk.i64_in _ (by omega)]
  have w4' : IntKind.i64.wrap (IntKind.i64.wrap (((off P sp.1 : Int) + (sp.2.1 : Int)) * (M : Int)) + (sp.2.2 : Int)) = (code P M sp : Int) := by
    have e : ((off P sp.1 : Int) + (sp.2.1 : Int)) * (M : Int) = (((off P sp.1 + sp.2.1 : Nat) : Int) * (M : Int)) := by simp
    rw [e, w2', w3']
  have hcI : (code P M sp : Int) < (off P P.length : Int) * (M : Int) := by rw [← Int.natCast_mul]; omega
  refine ref06_chart_add.ct fun R hR => ?_
  obtain ⟨F, RR, H, aa, ac, ha, hc, ba, bc, hok, s0, hback⟩ := s.chart k hk
  have s0' : St F w w (chL cb vT vN start vP P M RR H aa ac ha hc ba bc ++ []) := by rw [List.append_nil]; exact s0
  obtain ⟨gb, rfl, _⟩ := chart_base s0' p1
  obtain ⟨gh, rfl, _⟩ := chart_flag s0' hok hp
  obtain ⟨ga, rfl, _⟩ := chart_at s0' hok hp
  clear s0'
  obtain ⟨fb, hfb⟩ : ∃ fb, (H[pl]'(by rw [hok.hl]; exact hp)).1 = fb := ⟨_, rfl⟩
  have key : ∀ w1 X, St F w w1 (chL cb vT vN start vP P M RR H (some ⟨ga, 0, none⟩) ac (some ⟨gh, 0, none⟩) hc (some ⟨gb, 0, none⟩) bc ++ X) →
      w1.cell? ⟨gb, sp.1, none⟩ = some (.int .i64 (off P sp.1 : Nat)) ∧ w1.cell? ⟨gh, pl, none⟩ = some (.slice (some ⟨fb, 0, none⟩) (off P P.length * M) (off P P.length * M)) ∧
      w1.cell? ⟨fb, code P M sp, none⟩ = some (.bool (decide (sp ∈ at'.getD pl []))) ∧ w1.frozen? ⟨fb, code P M sp, none⟩ = false ∧
      w1.cell? ⟨ga, pl, none⟩ = some (.slice (RR[pl]'(by rw [hok.rl]; exact hp)).1 (at'.getD pl []).length (RR[pl]'(by rw [hok.rl]; exact hp)).2.1) ∧ w1.frozen? ⟨ga, pl, none⟩ = false := by
    intro w1 X s1
    obtain ⟨gb', e1, f1⟩ := chart_base s1 p1
    obtain ⟨gh', e2, f2⟩ := chart_flag s1 hok hp
    obtain ⟨ga', e3, f3, f4⟩ := chart_at s1 hok hp
    injection e1 with e1; injection e1 with e1; subst e1
    injection e2 with e2; injection e2 with e2; subst e2
    injection e3 with e3; injection e3 with e3; subst e3
    obtain ⟨f5, f6⟩ := chart_bit s1 hok hp hs
    rw [hfb] at f2 f5 f6
    exact ⟨f1, f2, f5, f6, f3, f4⟩
  have hbox : (Instr.box 137 (.agg #[.int .i64 sp.1, .int .i64 sp.2.1, .int .i64 sp.2.2])).run Try.prog w = .ok (.pointer (some ⟨w.heap.size, 0, none⟩)) (w.alloc (.cells #[.int .i64 sp.1, .int .i64 sp.2.1, .int .i64 sp.2.2] 137)) := by simp [go_sem]
  unfold ref06_chart_add.run ref06_chart_add.b1
  refine RUN_to hbox (fun v w' => ∃ q, v = .pointer (some ⟨q, 0, none⟩) ∧ St F w w' (chL cb vT vN start vP P M RR H (some ⟨ga, 0, none⟩) ac (some ⟨gh, 0, none⟩) hc (some ⟨gb, 0, none⟩) bc ++ [boxC q 137 (spV sp)])) ⟨_, rfl, s0.alloc #[.int .i64 sp.1, .int .i64 sp.2.1, .int .i64 sp.2.2] 137⟩ ?_
  rintro _ w1 ⟨q, rfl, s1⟩
  clear hbox
  have k1 := key w1 _ s1
  have cb1 := k1.1
  have ch1 := k1.2.1
  have cf1 := k1.2.2.1
  have y1 := s1.box 0 rfl
  have z1 := s1.box 6 rfl
  simp [boxAt, spV] at y1 z1
  simp -dsimp [go_sem, y1, z1, p1, cb1, w1', w4', hp, ch1, hcI, cf1]
  have hd1 : Chg noB w1 w1.drew := (Chg.refl _ _).drew
  have s1d := s1.old hd1
  refine SPL_intro (fun p4 => ?_) (fun p4 => ?_) <;> simp at p4
  · have p5 : sp ∈ at'.getD pl [] := by rw [List.getD_eq_getElem?_getD]; exact p4
    refine hR _ _ ⟨by simp [p4], ?_⟩
    rw [if_pos p5]
    exact hback _ _ _ _ _ _ _ _ _ _ hok (s1d.take 6)
  · have p5 : sp ∉ at'.getD pl [] := by rw [List.getD_eq_getElem?_getD]; exact p4
    obtain ⟨F5, s5, h5⟩ := s1.inAll 5 (L' := H.map fun x => rowC 4 1 (some ⟨x.1, 0, none⟩) (off P P.length * M) (off P P.length * M) (boolV x.2)) rfl
    have hpl : pl < H.length := by rw [hok.hl]; exact hp
    have hpr : pl < RR.length := by rw [hok.rl]; exact hp
    have s6 := h5 _ _ (s5.setRow pl (g := fb) (xs := boolV H[pl].2) (by rw [List.getElem?_map, List.getElem?_eq_getElem hpl, ← hfb]; rfl) (code P M sp) (.bool true))
    obtain ⟨H', hH'⟩ : ∃ H', H.set pl ((H[pl]'hpl).1, (H[pl]'hpl).2.set (code P M sp) true) = H' := ⟨_, rfl⟩
    have eH1 : H'.map (fun x => Value.slice (some ⟨x.1, 0, none⟩) (off P P.length * M) (off P P.length * M)) = H.map fun x => Value.slice (some ⟨x.1, 0, none⟩) (off P P.length * M) (off P P.length * M) := by
      rw [← hH', List.map_set]
      have h9 : pl < (H.map fun x => Value.slice (some ⟨x.1, 0, none⟩) (off P P.length * M) (off P P.length * M)).length := by simpa using hpl
      have := List.set_getElem_self h9
      rw [List.getElem_map] at this
      exact this
    have eH2 : (H.map fun x => rowC 4 1 (some ⟨x.1, 0, none⟩) (off P P.length * M) (off P P.length * M) (boolV x.2)).set pl (rowC 4 1 (some ⟨fb, 0, none⟩) (off P P.length * M) (off P P.length * M) ((boolV H[pl].2).set (code P M sp) (.bool true))) = H'.map fun x => rowC 4 1 (some ⟨x.1, 0, none⟩) (off P P.length * M) (off P P.length * M) (boolV x.2) := by
      rw [← hH', List.map_set, ← hfb]
      congr 2
      simp [boolV, List.map_set]
    rw [eH2] at s6
    have s7 : St F w (w1.setCell ⟨fb, code P M sp, none⟩ (.bool true)) (chL cb vT vN start vP P M RR H' (some ⟨ga, 0, none⟩) ac (some ⟨gh, 0, none⟩) hc (some ⟨gb, 0, none⟩) bc ++ [boxC q 137 (spV sp)]) := by
      unfold chL
      rw [eH1]
      exact s6
    clear s6 eH2 h5 s5
    have ff1 := k1.2.2.2.1
    have y7 := s7.box 0 rfl
    have z7 := s7.box 6 rfl
    simp only [boxAt, spV] at y7 z7
    have a7 := chart_hd s7 hpr
    have s8 := s7.alloc #[.int .i64 sp.1, .int .i64 sp.2.1, .int .i64 sp.2.2] 137
    rw [List.append_assoc] at s8
    have a8 := chart_hd s8 hpr
    have y8 := s8.box 0 rfl
    simp only [boxAt] at y8
    have hsz : (w1.setCell ⟨fb, code P M sp, none⟩ (.bool true)).heap.size = w1.heap.size := by simp
    have hnew : ∀ j u, (spV sp)[j]? = some u → ((w1.setCell ⟨fb, code P M sp, none⟩ (.bool true)).alloc (.cells #[.int .i64 sp.1, .int .i64 sp.2.1, .int .i64 sp.2.2] 137)).cell? ((⟨w1.heap.size, 0, none⟩ : Addr).add j) = some u := by
      have := alloc_cells (w1.setCell ⟨fb, code P M sp, none⟩ (.bool true)) (spV sp) 137 (n := w1.heap.size) hsz.symm
      exact this
    have s10 := s8.old ((Chg.refl _ _).drew.drew)
    unfold ref06_chart_add.b1_1
    simp -dsimp [go_sem, y1, z1, hp, ch1, hcI, cf1, ff1, y7, z7, a7, a8, y8]
    clear key k1 cb1 ch1 cf1 y1 z1 a7 y7 z7 s7 a8 y8 s8 s1 s1d s0
    generalize ((w1.setCell ⟨fb, code P M sp, none⟩ (.bool true)).alloc (.cells #[.int .i64 sp.1, .int .i64 sp.2.1, .int .i64 sp.2.2] 137)) = w3 at s10 hnew ⊢
    obtain ⟨F4, s4, h4⟩ := s10.inAll 4 (L' := RR.map fun x => rowC 137 3 x.1 x.2.2.length x.2.1 (x.2.2.flatMap spV)) rfl
    have hpo := hok.place pl
    have hlen := hpo.len
    have erow := hok.row hp
    refine s4.appendN (a := ⟨w1.heap.size, 0, none⟩) (m := 1) (news := spV sp) pl (by rw [List.getElem?_map, List.getElem?_eq_getElem hpr]; rfl) Try.underlying131 iSpt rfl (by omega) rfl (fun j u h => by have := hnew j u h; simpa using this) (by simp [spV]; exact ⟨rfl, rfl, rfl⟩) (by rw [erow]; unfold maxLen; omega) (by rw [erow]; unfold maxBytes; omega) fun a' cap w4 s11 hm => ?_
    have s12 := h4 _ _ s11
    have hok2 := hok.put hp hs p5 a' cap
    obtain ⟨R2, hR2⟩ : ∃ R2, RR.set pl (a', cap, (RR[pl]'hpr).2.2 ++ [sp]) = R2 := ⟨_, rfl⟩
    rw [hR2, hH'] at hok2
    have eR : (RR.map fun x => rowC 137 3 x.1 x.2.2.length x.2.1 (x.2.2.flatMap spV)).set pl (rowC 137 3 a' ((RR[pl]'hpr).2.2.length + 1) cap ((RR[pl]'hpr).2.2.flatMap spV ++ spV sp)) = R2.map fun x => rowC 137 3 x.1 x.2.2.length x.2.1 (x.2.2.flatMap spV) := by
      rw [← hR2, List.map_set]
      congr 2
      · simp
      · simp
    rw [eR] at s12
    have y12 := s12.box 0 rfl
    have b12 := s12.rowAt 1 rfl (j := pl) (by simpa using hpr)
    simp only [boxAt] at y12
    have s13 := s12.setRow 1 rfl pl (.slice a' ((RR[pl]'hpr).2.2.length + 1) cap)
    have eR2 : (RR.map fun x => Value.slice x.1 x.2.2.length x.2.1).set pl (.slice a' ((RR[pl]'hpr).2.2.length + 1) cap) = R2.map fun x => Value.slice x.1 x.2.2.length x.2.1 := by
      rw [← hR2, List.map_set]
      congr 1
      simp
    rw [eR2] at s13
    have f12 : w4.frozen? ⟨ga, pl, none⟩ = false ∧ ∃ u, w4.cell? ⟨ga, pl, none⟩ = some u := by
      obtain ⟨gb', e1, e2, e3⟩ := b12
      injection e1 with e1; injection e1 with e1; subst e1
      exact ⟨e3, _, e2⟩
    obtain ⟨f12, u12, c12⟩ := f12
    simp -dsimp [go_sem, y12, hp, f12, c12]
    refine hR _ _ ⟨?_, ?_⟩
    · simp [p4]
    · rw [if_neg p5]
      refine hback _ _ R2 H' (some ⟨ga, 0, none⟩) ac (some ⟨gh, 0, none⟩) hc (some ⟨gb, 0, none⟩) bc hok2 ?_
      exact s13.take 6
end Go.Proofs.Ytkacbjhiobnbfaa

/-
  The document's answer for reach: what is read of a chart.
-/
namespace Go.Px.Scan
open Go.Px
/-- What is read of a chart. -/
structure ChRd (w : World) (cb : Nat) (vP : Value) (M : Nat) (at' : List (List Spt)) (ga ac : Nat) : Prop where
  pr : w.cell? ⟨cb, 4, none⟩ = some vP
  a : w.cell? ⟨cb, 6, none⟩ = some (.slice (some ⟨ga, 0, none⟩) M ac)
  pl : ∀ p, p < M → ∃ A c, w.cell? ⟨ga, p, none⟩ = some (.slice A (at'.getD p []).length c) ∧ ∀ i s, (at'.getD p [])[i]? = some s → ∃ b, A = some ⟨b, 0, none⟩ ∧ w.cell? ⟨b, i * 3, none⟩ = some (.int .i64 s.1) ∧ w.cell? ⟨b, i * 3 + 1, none⟩ = some (.int .i64 s.2.1) ∧ w.cell? ⟨b, i * 3 + 2, none⟩ = some (.int .i64 s.2.2)
theorem chart_rd {G : Nat → Prop} {W w : World} {L : List Ch} (s : St G W w L) {k cb M : Nat} {vT vN vP : Value} {start : Int} {P : Prl} {at' : List (List Spt)} (hk : L[k]? = some (chartC cb vT vN start vP P M at')) (hM : 0 < M) :
    (∃ ga ac, ChRd w cb vP M at' ga ac) ∧ at'.length = M ∧ ∀ p, PlOk P M (at'.getD p []) := by
  obtain ⟨F, RR, H, aa, ac, ha, hc, ba, bc, hok, s0, _⟩ := s.chart k hk
  have s0' : St F w w (chL cb vT vN start vP P M RR H aa ac ha hc ba bc ++ []) := by rw [List.append_nil]; exact s0
  obtain ⟨ga, rfl, _⟩ := Go.Proofs.Ytkacbjhiobnbfaa.chart_at s0' hok hM
  have y := s0.box 0 rfl
  simp only [boxAt] at y
  refine ⟨⟨ga, ac, y.1.2.2.2.2.1, y.1.2.2.2.2.2.2.1, fun p hp => ?_⟩, hok.len, hok.place⟩
  have hpr : p < RR.length := by rw [hok.rl]; exact hp
  have h1 := (Go.Proofs.Ytkacbjhiobnbfaa.chart_hd s0' hpr).1
  rw [hok.row hp] at h1
  refine ⟨_, _, h1, fun i sp hi => ?_⟩
  obtain ⟨F4, s4, _⟩ := s0.inAll 4 (L' := RR.map fun x => rowC 137 3 x.1 x.2.2.length x.2.1 (x.2.2.flatMap spV)) rfl
  have hx : (RR.map fun x => rowC 137 3 x.1 x.2.2.length x.2.1 (x.2.2.flatMap spV))[p]? = some (rowC 137 3 (RR[p]'hpr).1 (at'.getD p []).length (RR[p]'hpr).2.1 ((at'.getD p []).flatMap spV)) := by
    rw [List.getElem?_map, List.getElem?_eq_getElem hpr, ← hok.row hp]; rfl
  obtain ⟨F5, ho, _⟩ := s4.get hx
  obtain ⟨b, eb, hcell, _⟩ := row_elem ho (fun x _ => rfl) (by omega) hi
  exact ⟨b, eb, hcell 0 _ rfl, hcell 1 _ rfl, hcell 2 _ rfl⟩
end Go.Px.Scan

/-
  A place of a chart is filled: what grows, and what it is for.
-/
namespace Go.Px.Scan
open Go.Px
section
variable {P : Prl} {M pl : Nat} {at0 at1 at2 : List (List Spt)}
theorem putS_self (h : pl < at1.length) (s : Spt) : (putS at1 pl s).getD pl [] = at1.getD pl [] ++ [s] := by
  rw [List.getD_eq_getElem?_getD, putS, List.getElem?_set_self h]; rfl
theorem putS_other {i : Nat} (h : i ≠ pl) (s : Spt) : (putS at1 pl s).getD i [] = at1.getD i [] := by
  rw [List.getD_eq_getElem?_getD, List.getD_eq_getElem?_getD, putS, List.getElem?_set_ne (Ne.symm h)]
/-- Spots began where they are, or before. -/
def FrLe (at' : List (List Spt)) : Prop := ∀ i, ∀ s ∈ at'.getD i [], s.2.2 ≤ i
/-- Only a place grew. -/
structure Grew (pl : Nat) (at0 at1 : List (List Spt)) : Prop where
  len : at1.length = at0.length
  other : ∀ i, i ≠ pl → at1.getD i [] = at0.getD i []
  self : ∃ m, at1.getD pl [] = at0.getD pl [] ++ m
  fr : FrLe at1
theorem Grew.refl (h : FrLe at0) : Grew pl at0 at0 := ⟨rfl, fun _ _ => rfl, ⟨[], by simp⟩, h⟩
theorem Grew.put (h : Grew pl at0 at1) (hp : pl < at0.length) {s : Spt} (hs : s.2.2 ≤ pl) : Grew pl at0 (putS at1 pl s) := by
  have hl : pl < at1.length := by rw [h.len]; exact hp
  refine ⟨by rw [putS, List.length_set, h.len], fun i hi => by rw [putS_other hi, h.other i hi], ?_, fun i t ht => ?_⟩
  · obtain ⟨m, e⟩ := h.self
    exact ⟨m ++ [s], by rw [putS_self hl, e, List.append_assoc]⟩
  · by_cases e : i = pl
    · subst e
      rw [putS_self hl] at ht
      rcases List.mem_append.1 ht with ht | ht
      · exact h.fr i t ht
      · simp at ht; subst ht; exact hs
    · rw [putS_other e] at ht
      exact h.fr i t ht
theorem Grew.trans (h : Grew pl at0 at1) (k : Grew pl at1 at2) : Grew pl at0 at2 := by
  obtain ⟨m, e⟩ := h.self
  obtain ⟨m', e'⟩ := k.self
  exact ⟨k.len.trans h.len, fun i hi => (k.other i hi).trans (h.other i hi), ⟨m ++ m', by rw [e', e, List.append_assoc]⟩, k.fr⟩
/-- What was closed before the place stays so. -/
theorem Grew.cl (h : Grew pl at0 at1) {i : Nat} (hi : i < pl) (hf : FrLe at0) (hc : ∀ s ∈ at0.getD i [], Cl P at0 i s) : ∀ s ∈ at1.getD i [], Cl P at1 i s := by
  intro s hs
  have e := h.other i (by omega)
  rw [e] at hs
  have := hc s hs
  refine ⟨fun x hx p hp hpx => ?_, fun hd t ht hx => ?_⟩
  · rw [e]; exact this.pred x hx p hp hpx
  · rw [h.other _ (by have := hf i s hs; omega)] at ht
    rw [e]; exact this.comp hd t ht hx
end
end Go.Px.Scan

/-
  The document's answer for reach: a place of a chart is filled.
-/
namespace Go.Proofs.Ytkacbjhiobnbfaa
open Go.Px Go.Px.Scan Go.RowKit
set_option maxHeartbeats 1000000
set_option linter.unusedSimpArgs false
set_option linter.unusedVariables false
set_option maxRecDepth 100000
attribute [-go_sem] Builtin.append_ ref06_chart_fill.b6 ref06_chart_fill.b11 ref06_chart_fill.b13 ref06_chart_fill.b15 ref06_chart_fill.b24 ref06_chart_fill.b25 ref06_chart_fill.b28 ref06_chart_fill.b37 ref06_chart_fill.b27 ref06_chart_fill.b22 ref06_chart_fill.b22_1 ref06_chart_fill.b22_2

theorem aSpt (x y z : Int) (w : World) : (Instr.build 137 #[(0, .int .i64 x), (1, .int .i64 y), (2, .int .i64 z)]).run Try.prog w = .ok (.agg #[.int .i64 x, .int .i64 y, .int .i64 z]) w := by
  simp [go_sem, cells_int]
attribute [go_sem ↓] aSpt
section
variable {F : Nat → Prop} {w0 : World} {cb M pl B : Nat} {vT vN vP : Value} {start : Int} {P : Prl} {at0 : List (List Spt)}
theorem off_ge : ∀ P : Prl, P.length ≤ off P P.length
  | [] => by simp
  | p :: P => by
    have := off_ge P
    simp only [List.length_cons, off]
    omega
theorem pred_loop {w : World} {at2 : List (List Spt)} {q i : Nat} {sp : Spt} {ag : Bool} {x : Int} {Ar : Option Addr} {cr : Nat} {R : Ending → World → Prop} {C3 : Value → World → Prop} {C8 : Value → Value → World → Prop}
    (s : St F w0 w [chartC cb vT vN start vP P M at2, boxC q 137 (spV sp)]) (hP : (rSlice rPr).at1 w0 B vP P) (hB : B ≤ w0.heap.size) (hF : ∀ b, b < B → ¬ F b) (hfr : FrLe at2) (hpl : pl < M) (hM : M ≤ 13) (hA : off P P.length ≤ 2000000)
    (hr : (rSlice rInt).at1 w0 B (.slice Ar (rightOf P sp).length cr) (rightOf P sp)) (hx : (rightOf P sp)[sp.2.1]? = some x)
    (hgo : ∀ w' (ag' : Bool) at3, Grew pl at2 at3 → (ag' = false → ag = false ∧ at3 = at2 ∧ ∀ p (hp : p < P.length), P[p].1 = x → (p, 0, pl) ∈ at2.getD pl []) → (ag' = true → ag = true ∨ (at2.getD pl []).length < (at3.getD pl []).length) → St F w0 w' [chartC cb vT vN start vP P M at3, boxC q 137 (spV sp)] → ref06_chart_fill.b27 R C3 C8 (.bool ag') (.int .i64 i) w') :
    ref06_chart_fill.b28 R C3 C8 (.pointer (some ⟨cb, 0, none⟩)) (.int .i64 pl) (.bool ag) (.int .i64 i) (.pointer (some ⟨q, 0, none⟩)) (.slice Ar (rightOf P sp).length cr) w := by
  have hPlen : P.length ≤ 2000000 := Nat.le_trans (off_ge P) hA
  unfold ref06_chart_fill.b28
  refine ref06_chart_fill.l30_intro _ _ _ _ _ _ _ _ _ _ _ (fun y z w' => ∃ (ag' : Bool) (p : Nat) (at3 : List (List Spt)), y = .bool ag' ∧ z = .int .i64 p ∧ p ≤ P.length ∧ Grew pl at2 at3 ∧ (ag' = false → ag = false ∧ at3 = at2 ∧ ∀ q' (hq : q' < P.length), q' < p → P[q'].1 = x → (q', 0, pl) ∈ at2.getD pl []) ∧ (ag' = true → ag = true ∨ (at2.getD pl []).length < (at3.getD pl []).length) ∧ St F w0 w' [chartC cb vT vN start vP P M at3, boxC q 137 (spV sp)]) (fun _ z _ => P.length - iv z)
    ⟨ag, 0, at2, rfl, rfl, by omega, Grew.refl hfr, fun h => ⟨h, rfl, by omega⟩, fun h => Or.inl h, s⟩ ?_
  rintro _ _ w1 ⟨ag1, p, at3, rfl, rfl, hp, hg, hno, hyes, s1⟩ C hC
  have wi : IntKind.i64.wrap ((p : Int) + 1) = (p : Int) + 1 := IntWalk.i64_in _ (by omega)
  obtain ⟨⟨ga, ac, hrd⟩, hlen3, hpo⟩ := chart_rd s1 (k := 0) rfl (by omega)
  have hrp := hrd.pr
  obtain ⟨A4, c4, e4, hPl, hPm, _⟩ := slice_form hP
  subst e4
  have hbl := s1.chg.below hB hF
  have z1 := s1.box 1 rfl
  simp only [boxAt, spV] at z1
  simp -dsimp [go_sem, hrp]
  refine SPL_intro (fun p1 => ?_) (fun p1 => ?_) <;> simp at p1
  · obtain ⟨bp, op, vr, eA, hbp, x1, x2, x3, _, _⟩ := prods_at (Rep.below hP hbl) p1
    subst eA
    have hdl : sp.2.1 < (rightOf P sp).length := (List.getElem?_eq_some_iff.1 hx).1
    obtain ⟨br, or', eAr, hbr, cx, hxin⟩ := Go.Px.ints_at (Rep.below hr hbl) hdl
    subst eAr
    have hxe : (rightOf P sp)[sp.2.1] = x := (List.getElem?_eq_some_iff.1 hx).2
    rw [hxe] at cx
    simp -dsimp [go_sem, hrp, p1, x1, z1, hdl, cx]
    have s2 := s1.old ((Chg.refl noB w1).drew)
    refine SPL_intro (fun p2 => ?_) (fun p2 => ?_) <;> simp at p2
    · unfold ref06_chart_fill.b35_1
      simp -dsimp [go_sem]
      have hso : sOk P M (p, 0, pl) := ⟨p1, Nat.zero_le _, hpl⟩
      have had : Ct Try.prog ref06_chart_add.id #[.pointer (some ⟨cb, 0, none⟩), .int .i64 pl, .agg #[.int .i64 (p : Nat), .int .i64 0, .int .i64 pl]] w1.drew _ := add_ct s2 (k := 0) rfl hpl (sp := (p, 0, pl)) hso hM hA
      refine CALL_of had ?_
      rintro _ w3 ⟨rfl, s3⟩
      by_cases hm : (p, 0, pl) ∈ at3.getD pl []
      · rw [if_pos hm] at s3
        rw [decide_eq_false (by simpa using hm)]
        simp -dsimp [go_sem, wi]
        refine hC _ _ _ ⟨ag1, p + 1, at3, rfl, by simp, by omega, hg, fun h => ?_, hyes, s3⟩ (by simp [iv]; omega)
        obtain ⟨h1, h2, h3⟩ := hno h
        refine ⟨h1, h2, fun q' hq hlt e => ?_⟩
        rcases Nat.lt_or_ge q' p with h4 | h4
        · exact h3 q' hq h4 e
        · have : q' = p := by omega
          subst this
          rw [← h2]; exact hm
      · rw [if_neg hm] at s3
        rw [decide_eq_true (by simpa using hm)]
        simp -dsimp [go_sem, wi]
        refine hC _ _ _ ⟨true, p + 1, putS at3 pl (p, 0, pl), rfl, by simp, by omega, hg.put (by rw [← hg.len, hlen3]; exact hpl) (Nat.le_refl _), (fun h => by cases h), fun _ => Or.inr ?_, s3⟩ (by simp [iv]; omega)
        obtain ⟨m, e⟩ := hg.self
        rw [putS_self (by rw [hlen3]; exact hpl), e]
        simp
    · simp -dsimp [go_sem, wi]
      refine hC _ _ _ ⟨ag1, p + 1, at3, rfl, by simp, by omega, hg, fun h => ?_, hyes, s2⟩ (by simp [iv]; omega)
      obtain ⟨h1, h2, h3⟩ := hno h
      refine ⟨h1, h2, fun q' hq hlt e => ?_⟩
      rcases Nat.lt_or_ge q' p with h4 | h4
      · exact h3 q' hq h4 e
      · have : q' = p := by omega
        subst this
        exact absurd e p2
  · have hpe : p = P.length := by omega
    subst hpe
    exact hgo _ ag1 at3 hg (fun h => ⟨(hno h).1, (hno h).2.1, fun p hp => (hno h).2.2 p hp hp⟩) hyes s1
theorem comp_loop {w : World} {at2 : List (List Spt)} {q i : Nat} {sp : Spt} {ag : Bool} {R : Ending → World → Prop} {C3 : Value → World → Prop} {C8 : Value → Value → World → Prop}
    (s : St F w0 w [chartC cb vT vN start vP P M at2, boxC q 137 (spV sp)]) (hP : (rSlice rPr).at1 w0 B vP P) (hB : B ≤ w0.heap.size) (hF : ∀ b, b < B → ¬ F b) (hfr : FrLe at2) (hpl : pl < M) (hM : M ≤ 13) (hA : off P P.length ≤ 2000000)
    (hok : sOk P M sp) (hsp : sp.2.2 ≤ pl)
    (hgo : ∀ w' (ag' : Bool) at3, Grew pl at2 at3 → (ag' = false → ag = false ∧ at3 = at2 ∧ ∀ t ∈ at2.getD sp.2.2 [], (rightOf P t)[t.2.1]? = some (Go.Px.Scan.leftOf P sp) → nxt t ∈ at2.getD pl []) → (ag' = true → ag = true ∨ (at2.getD pl []).length < (at3.getD pl []).length) → St F w0 w' [chartC cb vT vN start vP P M at3, boxC q 137 (spV sp)] → ref06_chart_fill.b11 R C3 C8 (.bool ag') (.int .i64 i) w') :
    ref06_chart_fill.b15 R C3 C8 (.pointer (some ⟨cb, 0, none⟩)) (.int .i64 pl) (.bool ag) (.int .i64 i) (.pointer (some ⟨q, 0, none⟩)) w := by
  obtain ⟨⟨ga0, ac0, hrd0⟩, hlen2, _⟩ := chart_rd s (k := 0) rfl (by omega)
  have hrp0 := hrd0.pr
  obtain ⟨A4, c4, e4, hPl, hPm, _⟩ := slice_form hP
  subst e4
  have z0 := s.box 1 rfl
  simp only [boxAt, spV] at z0
  obtain ⟨bp, op, vr, eA, hbp, x1, x2, x3, _, _⟩ := prods_at (Rep.below hP (s.chg.below hB hF)) hok.1
  subst eA
  have hleft : Go.Px.Scan.leftOf P sp = (P[sp.1]'hok.1).1 := by unfold Go.Px.Scan.leftOf; rw [List.getD_eq_getElem?_getD, List.getElem?_eq_getElem hok.1]; rfl
  unfold ref06_chart_fill.b15
  simp -dsimp [go_sem, hrp0, z0, hok.1, x1]
  rw [← hleft]
  have sd := s.old ((Chg.refl noB w).drew)
  refine ref06_chart_fill.l17_intro _ _ _ _ _ _ _ _ _ _ _ (fun y z w' => ∃ (ag' : Bool) (k : Nat) (at3 : List (List Spt)), y = .bool ag' ∧ z = .int .i64 k ∧ k ≤ (at3.getD sp.2.2 []).length ∧ Grew pl at2 at3 ∧ (ag' = false → ag = false ∧ at3 = at2 ∧ ∀ j t, j < k → (at2.getD sp.2.2 [])[j]? = some t → (rightOf P t)[t.2.1]? = some (Go.Px.Scan.leftOf P sp) → nxt t ∈ at2.getD pl []) ∧ (ag' = true → ag = true ∨ (at2.getD pl []).length < (at3.getD pl []).length) ∧ St F w0 w' [chartC cb vT vN start (.slice (some ⟨bp, op, none⟩) P.length c4) P M at3, boxC q 137 (spV sp)]) (fun _ z _ => off P P.length * M + 1 - iv z)
    ⟨ag, 0, at2, rfl, rfl, by omega, Grew.refl hfr, fun h => ⟨h, rfl, by omega⟩, fun h => Or.inl h, sd⟩ ?_
  rintro _ _ w1 ⟨ag1, k, at3, rfl, rfl, hk, hg, hno, hyes, s1⟩ C hC
  obtain ⟨⟨ga, ac, hrd⟩, hlen3, hpo⟩ := chart_rd s1 (k := 0) rfl (by omega)
  have hle := (hpo sp.2.2).len
  have hfm := hok.2.2
  have hAM : off P P.length * M ≤ 26000000 := by have := Nat.mul_le_mul hA hM; omega
  obtain ⟨A, c, ha, hcells⟩ := hrd.pl sp.2.2 hfm
  have hra := hrd.a
  have z1 := s1.box 1 rfl
  simp only [boxAt, spV] at z1
  simp -dsimp [go_sem, hra, z1, hfm, ha]
  refine SPL_intro (fun p1 => ?_) (fun p1 => ?_) <;> simp at p1
  · obtain ⟨t, ht⟩ : ∃ t, (at3.getD sp.2.2 [])[k]? = some t := by
      rw [List.getD_eq_getElem?_getD]
      exact ⟨_, List.getElem?_eq_getElem p1⟩
    obtain ⟨b, rfl, q1, q2, q3⟩ := hcells k t ht
    have hot := (hpo sp.2.2).ok t (List.mem_of_getElem? ht)
    have wk : IntKind.i64.wrap ((k : Int) + 1) = (k : Int) + 1 := IntWalk.i64_in _ (by omega)
    have s2 := s1.alloc #[.int .i64 t.1, .int .i64 t.2.1, .int .i64 t.2.2] 137
    obtain ⟨⟨ga2, ac2, hrd2⟩, _⟩ := chart_rd s2 (k := 0) rfl (by omega)
    have z2 := s2.box 1 rfl
    simp only [boxAt, spV] at z2
    obtain ⟨bt, ot, vt, eT, hbt, t1, t2, t3, hrt, _⟩ := prods_at (Rep.below hP (s2.chg.below hB hF)) hot.1
    injection eT with eT; injection eT with eT1 eT2; subst eT1 eT2
    obtain ⟨Ar, cr, rfl, hrl, hrm, _⟩ := slice_form hrt
    have hz := (Chg.refl noB w1).alloc (.cells #[.int .i64 0, .int .i64 0, .int .i64 0] 137)
    have q1' := hz.at q1 id
    have q2' := hz.at q2 id
    have q3' := hz.at q3 id
    have ha' := hz.at ha id
    have hra' := hz.at hra id
    have zf' := hz.at z1.1.2.2.1 id
    unfold ref06_chart_fill.b22
    simp -dsimp [go_sem, hra, z1, hfm, ha, p1, q1, q2, q3, hrd2.pr, hot.1, t2, q1', q2', q3', ha', hra', zf']
    have hbl2 := s2.chg.below hB hF
    clear hrd2 z2 t1 t2 t3 q1' q2' q3' ha' hra' zf' hz
    generalize w1.alloc (.cells #[.int .i64 t.1, .int .i64 t.2.1, .int .i64 t.2.2] 137) = w2 at s2 hbl2 hrt ⊢
    generalize w1.heap.size = q2 at s2 ⊢
    have s3 := s2.old ((Chg.refl noB w2).drew.drew.drew)
    obtain ⟨rt, er⟩ : ∃ rt, (P[t.1]'hot.1).2.1 = rt := ⟨_, rfl⟩
    have ert : rightOf P t = rt := by rw [← er]; have h := hot.1; simp [rightOf, h]
    rw [er] at hrt hrl ⊢
    have hskip : ∀ w', St F w0 w' [chartC cb vT vN start (.slice (some ⟨bp, op, none⟩) P.length c4) P M at3, boxC q 137 (spV sp)] → ((rightOf P t)[t.2.1]? = some (Go.Px.Scan.leftOf P sp) → nxt t ∈ at3.getD pl []) → C (.bool ag1) (.int .i64 ((k : Int) + 1)) w' := by
      intro w' h1 h2
      refine hC _ _ _ ⟨ag1, k + 1, at3, rfl, by simp, by rw [List.getD_eq_getElem?_getD]; omega, hg, fun h => ?_, hyes, h1⟩ (by simp [iv]; rw [List.getD_eq_getElem?_getD] at hle; omega)
      obtain ⟨g1, g2, g3⟩ := hno h
      refine ⟨g1, g2, fun j t' hj ht' hx => ?_⟩
      rcases Nat.lt_or_ge j k with h4 | h4
      · exact g3 j t' h4 ht' hx
      · have : j = k := by omega
        subst this
        rw [← g2, ht] at ht'
        injection ht' with ht'
        subst ht'
        rw [← g2]; exact h2 hx
    have z3 := s3.box 2 rfl
    simp only [boxAt] at z3
    refine SPL_intro (fun p2 => ?_) (fun p2 => ?_) <;> simp at p2
    · obtain ⟨br, or', eAr, hbr, cx, hxin⟩ := Go.Px.ints_at (Rep.below hrt ((Chg.refl noB w2).drew.drew.drew.below (by have := s2.chg.size; omega) fun _ _ => id)) p2
      subst eAr
      unfold ref06_chart_fill.b22_2
      simp -dsimp [go_sem, z3, p2, cx]
      refine SPL_intro (fun p3 => ?_) (fun p3 => ?_) <;> simp at p3
      · have wd : IntKind.i64.wrap ((t.2.1 : Int) + 1) = (t.2.1 : Int) + 1 := IntWalk.i64_in _ (by unfold maxLen at hrm; omega)
        unfold ref06_chart_fill.b22_1
        simp -dsimp [go_sem, z3, wd]
        have hso : sOk P M (nxt t) := ⟨hot.1, by show t.2.1 + 1 ≤ (rightOf P t).length; rw [ert]; omega, hot.2.2⟩
        have had : Ct Try.prog ref06_chart_add.id #[.pointer (some ⟨cb, 0, none⟩), .int .i64 pl, .agg #[.int .i64 (t.1 : Nat), .int .i64 ((t.2.1 : Int) + 1), .int .i64 (t.2.2 : Nat)]] w2.drew.drew.drew _ := add_ct s3 (k := 0) rfl hpl (sp := nxt t) hso hM hA
        refine CALL_of had ?_
        rintro _ w4 ⟨rfl, s4⟩
        have hfrt : t.2.2 ≤ pl := Nat.le_trans (hg.fr _ t (List.mem_of_getElem? ht)) hsp
        by_cases hm : nxt t ∈ at3.getD pl []
        · rw [if_pos hm] at s4
          rw [decide_eq_false (by simpa using hm)]
          simp -dsimp [go_sem, wk]
          exact hskip _ (s4.take 2) fun _ => hm
        · rw [if_neg hm] at s4
          rw [decide_eq_true (by simpa using hm)]
          simp -dsimp [go_sem, wk]
          have hpl3 : pl < at3.length := by rw [hlen3]; exact hpl
          refine hC _ _ _ ⟨true, k + 1, putS at3 pl (nxt t), rfl, by simp, ?_, hg.put (by rw [← hg.len]; exact hpl3) hfrt, (fun h => by cases h), fun _ => Or.inr ?_, s4.take 2⟩ (by simp [iv]; rw [List.getD_eq_getElem?_getD] at hle; omega)
          · by_cases e : sp.2.2 = pl
            · rw [e] at p1 ⊢
              rw [putS_self hpl3]
              simp; omega
            · rw [putS_other e, List.getD_eq_getElem?_getD]; omega
          · obtain ⟨m, e⟩ := hg.self
            rw [putS_self hpl3, e]
            simp
      · simp -dsimp [go_sem, wk]
        refine hskip _ (s3.take 2) fun h => ?_
        rw [ert, List.getElem?_eq_getElem p2] at h
        injection h with h
        exact absurd h p3
    · simp -dsimp [go_sem, wk]
      refine hskip _ (s3.take 2) fun h => ?_
      rw [ert, List.getElem?_eq_none p2] at h
      cases h
  · have hke : k = (at3.getD sp.2.2 []).length := by
      rw [List.getD_eq_getElem?_getD] at hk ⊢; omega
    refine hgo _ ag1 at3 hg (fun h => ?_) hyes (s1.old ((Chg.refl noB w1).drew))
    obtain ⟨h1, h2, h3⟩ := hno h
    refine ⟨h1, h2, fun t ht hx => ?_⟩
    obtain ⟨j, hj, rfl⟩ := List.getElem_of_mem ht
    exact h3 j _ (by rw [hke, h2]; exact hj) (List.getElem?_eq_getElem hj) hx
theorem fill_ct {w : World} (s : St F w0 w [chartC cb vT vN start vP P M at0]) (hP : (rSlice rPr).at1 w0 B vP P) (hB : B ≤ w0.heap.size) (hF : ∀ b, b < B → ¬ F b) (hfr : FrLe at0) (hpl : pl < M) (hM : M ≤ 13) (hA : off P P.length ≤ 2000000) :
    Ct Try.prog ref06_chart_fill.id #[.pointer (some ⟨cb, 0, none⟩), .int .i64 pl] w fun v w' => v = .tuple #[] ∧ ∃ at1, Grew pl at0 at1 ∧ (∀ t ∈ at1.getD pl [], Cl P at1 pl t) ∧ St F w0 w' [chartC cb vT vN start vP P M at1] := by
  refine ref06_chart_fill.ct fun R hR => ?_
  have hAM : off P P.length * M ≤ 26000000 := by have := Nat.mul_le_mul hA hM; omega
  have hlen0 := (chart_rd s (k := 0) rfl (by omega)).2.1
  unfold ref06_chart_fill.run
  let J : Value → World → Nat → Prop := fun y w' f => ∃ (ag : Bool) (at1 : List (List Spt)), y = .bool ag ∧ Grew pl at0 at1 ∧ (ag = false → ∀ t ∈ at1.getD pl [], Cl P at1 pl t) ∧ St F w0 w' [chartC cb vT vN start vP P M at1] ∧ f = 2 * (off P P.length * M - (at1.getD pl []).length) + (if ag then 1 else 0)
  simp -dsimp [go_sem]
  refine ref06_chart_fill.l3_intro _ _ _ _ _ (fun y w' => ∃ f, J y w' f) (fun y w' => muOf (J y) w') ⟨_, true, at0, rfl, Grew.refl hfr, by simp, s, rfl⟩ ?_
  rintro y3 w3 hJ C hC
  have hJm := muOf_at hJ
  have hfin : ∀ y4 w4 f, J y4 w4 f → f < muOf (J y3) w3 → C y4 w4 := fun y4 w4 f h1 h2 => hC _ _ ⟨f, h1⟩ (Nat.lt_of_le_of_lt (muOf_le h1) h2)
  obtain ⟨ag, at1, rfl, hg1, hcl1, s3, hf⟩ := hJm
  rw [hf] at hfin
  clear hf hC hJ s
  cases ag with
  | false =>
    simp -dsimp [go_sem]
    exact hR _ _ ⟨rfl, at1, hg1, hcl1 rfl, s3⟩
  | true =>
  simp -dsimp [go_sem]
  unfold ref06_chart_fill.b6
  refine ref06_chart_fill.l8_intro _ _ _ _ _ _ _ (fun x y w' => ∃ (ag : Bool) (i : Nat) (at2 : List (List Spt)), x = .bool ag ∧ y = .int .i64 i ∧ i ≤ (at2.getD pl []).length ∧ Grew pl at0 at2 ∧ (ag = false → ∀ j t, j < i → (at2.getD pl [])[j]? = some t → Cl P at2 pl t) ∧ St F w0 w' [chartC cb vT vN start vP P M at2] ∧ (at1.getD pl []).length + (if ag then 1 else 0) ≤ (at2.getD pl []).length) (fun _ y _ => off P P.length * M + 1 - iv y)
    ⟨false, 0, at1, rfl, rfl, by omega, hg1, by omega, s3, by simp⟩ ?_
  rintro _ _ w4 ⟨ag, i, at2, rfl, rfl, hi, hg2, hcl2, s4, hcnt⟩ D hD
  obtain ⟨⟨ga, ac, hrd⟩, hlen2, hpo⟩ := chart_rd s4 (k := 0) rfl (by omega)
  have hle := (hpo pl).len
  obtain ⟨A, c, ha, hcells⟩ := hrd.pl pl hpl
  have hra := hrd.a
  have hrp := hrd.pr
  simp -dsimp [go_sem, hra, hpl, ha]
  refine SPL_intro (fun p1 => ?_) (fun p1 => ?_) <;> simp at p1
  · obtain ⟨sp, hsp⟩ : ∃ sp, (at2.getD pl [])[i]? = some sp := by
      rw [List.getD_eq_getElem?_getD]
      exact ⟨_, List.getElem?_eq_getElem p1⟩
    obtain ⟨b, rfl, q1, q2, q3⟩ := hcells i sp hsp
    have hok := (hpo pl).ok sp (List.mem_of_getElem? hsp)
    have wi : IntKind.i64.wrap ((i : Int) + 1) = (i : Int) + 1 := IntWalk.i64_in _ (by omega)
    have hgo : ∀ w' (ag' : Bool) at3, Grew pl at0 at3 → i + 1 ≤ (at3.getD pl []).length → (ag' = false → ∀ j t, j < i + 1 → (at3.getD pl [])[j]? = some t → Cl P at3 pl t) → St F w0 w' [chartC cb vT vN start vP P M at3] → (at1.getD pl []).length + (if ag' then 1 else 0) ≤ (at3.getD pl []).length → ref06_chart_fill.b11 R C D (.bool ag') (.int .i64 i) w' := by
      intro w' ag' at3 h1 h2 h3 h4 h5
      unfold ref06_chart_fill.b11
      simp -dsimp [go_sem, wi]
      have := ((chart_rd h4 (k := 0) rfl (by omega)).2.2 pl).len
      exact hD _ _ _ ⟨ag', i + 1, at3, rfl, by simp, h2, h1, h3, h4, h5⟩ (by simp [iv]; omega)
    have s5 := s4.alloc #[.int .i64 sp.1, .int .i64 sp.2.1, .int .i64 sp.2.2] 137
    have hbl := s5.chg.below hB hF
    obtain ⟨A4, c4, e4, hPl, hPm, _⟩ := slice_form hP
    subst e4
    obtain ⟨bp, op, vr, eA, hbp, x1, x2, x3, hr, _⟩ := prods_at hP hok.1
    have x2 := s5.chg.at x2 (hF _ hbp)
    subst eA
    obtain ⟨Ar, cr, rfl, hrl, hrm, _⟩ := slice_form hr
    obtain ⟨⟨ga5, ac5, hrd5⟩, _⟩ := chart_rd s5 (k := 0) rfl (by omega)
    have z5 := s5.box 1 rfl
    simp only [boxAt] at z5
    unfold ref06_chart_fill.b13
    simp -dsimp [go_sem, hra, hpl, ha, p1, q1, q2, q3, hrd5.pr, hok.1, x2]
    clear hrd5 z5 x1 x2 x3 ga5 ac5
    generalize w4.alloc (.cells #[.int .i64 sp.1, .int .i64 sp.2.1, .int .i64 sp.2.2] 137) = w5 at s5 hbl ⊢
    generalize w4.heap.size = q5 at s5 ⊢
    have s6 := s5.old ((Chg.refl _ _).drew)
    clear s5
    obtain ⟨rt, er⟩ : ∃ rt, (P[sp.1]'hok.1).2.1 = rt := ⟨_, rfl⟩
    have ert : rightOf P sp = rt := by rw [← er]; have h := hok.1; simp [rightOf, h]
    rw [er] at hrl ⊢
    have hr0 : (rSlice rInt).at1 w0 B (.slice Ar (rightOf P sp).length cr) (rightOf P sp) := by rw [ert, ← er]; exact hr
    have z6 := s6.box 1 rfl
    simp only [boxAt] at z6
    unfold ref06_chart_fill.b24
    simp -dsimp [go_sem, z6]
    unfold ref06_chart_fill.b25
    have s7 := s6.old ((Chg.refl noB w5.drew))
    have hsl : sp.2.2 ≤ pl := hg2.fr pl sp (List.mem_of_getElem? hsp)
    have hgr : ∀ {at3}, Grew pl at2 at3 → Grew pl at0 at3 := fun h => hg2.trans h
    have hlen : ∀ {at3}, Grew pl at2 at3 → i + 1 ≤ (at3.getD pl []).length := fun h => by
      obtain ⟨m, e⟩ := h.self
      have := (List.getElem?_eq_some_iff.1 hsp).1
      rw [e, List.length_append]; omega
    have hcn : ∀ {at3} {ag' : Bool}, Grew pl at2 at3 → (ag' = true → ag = true ∨ (at2.getD pl []).length < (at3.getD pl []).length) → (at1.getD pl []).length + (if ag' then 1 else 0) ≤ (at3.getD pl []).length := fun {at3 ag'} h h1 => by
      obtain ⟨m, e⟩ := h.self
      have e2 : (at2.getD pl []).length ≤ (at3.getD pl []).length := by rw [e, List.length_append]; omega
      cases ag' with
      | false => cases ag <;> simp at hcnt ⊢ <;> simp at e2 <;> omega
      | true =>
        rcases h1 rfl with h2 | h2
        · subst h2; simp at hcnt ⊢; simp at e2; omega
        · cases ag <;> simp at hcnt h2 ⊢ <;> omega
    refine SPL_intro (fun p2 => ?_) (fun p2 => ?_) <;> simp at p2
    · have hx : (rightOf P sp)[sp.2.1]? = some (rt[sp.2.1]'p2) := by rw [ert]; exact List.getElem?_eq_getElem p2
      rw [← ert]
      refine pred_loop s6 hP hB hF hg2.fr hpl hM hA hr0 hx fun w' ag' at3 h1 h2 h3 h4 => ?_
      unfold ref06_chart_fill.b27
      refine hgo w' ag' at3 (hgr h1) (hlen h1) (fun h j t hj ht => ?_) (h4.take 1) (hcn h1 h3)
      obtain ⟨e1, e2, e3⟩ := h2 h
      subst e2
      rcases Nat.lt_or_ge j i with h5 | h5
      · exact hcl2 e1 j t h5 ht
      · have : j = i := by omega
        subst this
        rw [hsp] at ht; injection ht with ht; subst ht
        refine ⟨fun x' hx' p hp hpx => ?_, fun hd => ?_⟩
        · rw [hx] at hx'; injection hx' with hx'
          exact e3 p hp (hpx.trans hx'.symm)
        · rw [ert] at hd; omega
    · unfold ref06_chart_fill.b37
      refine comp_loop s6 hP hB hF hg2.fr hpl hM hA hok hsl fun w' ag' at3 h1 h2 h3 h4 => ?_
      refine hgo w' ag' at3 (hgr h1) (hlen h1) (fun h j t hj ht => ?_) (h4.take 1) (hcn h1 h3)
      obtain ⟨e1, e2, e3⟩ := h2 h
      subst e2
      rcases Nat.lt_or_ge j i with h5 | h5
      · exact hcl2 e1 j t h5 ht
      · have : j = i := by omega
        subst this
        rw [hsp] at ht; injection ht with ht; subst ht
        refine ⟨fun x' hx' p hp hpx => ?_, fun hd => e3⟩
        rw [ert, List.getElem?_eq_none p2] at hx'
        cases hx'
  · have hie : i = (at2.getD pl []).length := by
      rw [List.getD_eq_getElem?_getD] at hi ⊢; omega
    refine hfin _ _ _ ⟨ag, at2, rfl, hg2, fun h t ht => ?_, s4, rfl⟩ ?_
    · obtain ⟨j, hj, rfl⟩ := List.getElem_of_mem ht
      exact hcl2 h j _ (by omega) (List.getElem?_eq_getElem hj)
    · cases ag <;> simp at hcnt ⊢ <;> rw [List.getD_eq_getElem?_getD] at * <;> omega
end
end Go.Proofs.Ytkacbjhiobnbfaa

/-
  The document's answer for reach: a chart is read on, place by place.
-/
namespace Go.Proofs.Ytkacbjhiobnbfaa
open Go.Px Go.Px.Scan Go.RowKit
set_option maxHeartbeats 1000000
set_option linter.unusedSimpArgs false
set_option linter.unusedVariables false
set_option maxRecDepth 100000
attribute [-go_sem] Builtin.append_ ref06_read.b10 ref06_read.b16 ref06_read.b19 ref06_read.b19_1 ref06_read.b25 ref06_read.b28 ref06_read.b28_1 ref06_read.b27 ref06_read.b27_1 ref06_read.b20 ref06_read.b11 ref06_read.b8 ref06_read.b33 ref06_read.b32_1 ref06_read.b32_2 ref06_read.b29
section
variable {w0 : World} {cb B q2 q7 : Nat} {vT vN vP : Value} {start : Int} {P : Prl} {row : List Int} {Aw : Option Addr} {cw : Nat}
theorem scan_loop {w : World} {at2 : List (List Spt)} {i M : Nat} {R : Ending → World → Prop} {C13 : Value → World → Prop}
    (s : St noB w0 w [chartC cb vT vN start vP P M at2]) (hP : (rSlice rPr).at1 w0 B vP P) (hB : B ≤ w0.heap.size) (hrow : (rSlice rInt).at1 w0 B (.slice Aw row.length cw) row) (h7 : w0.cell? ⟨q7, 4, none⟩ = some vP) (h70 : q7 < w0.heap.size)
    (hfr : FrLe at2) (hi : i < row.length) (hMr : M = row.length + 1) (hM : M ≤ 13) (hA : off P P.length ≤ 2000000)
    (hgo : ∀ w' at3, Grew (i + 1) at2 at3 → (∀ t ∈ at2.getD i [], ∀ x, row[i]? = some x → (rightOf P t)[t.2.1]? = some x → nxt t ∈ at3.getD (i + 1) []) → St noB w0 w' [chartC cb vT vN start vP P M at3] → ref06_read.b19 R C13 (.pointer (some ⟨cb, 0, none⟩)) (.int .i64 i) w') :
    ref06_read.b20 R C13 (.slice Aw row.length cw) (.pointer (some ⟨q7, 0, none⟩)) (.pointer (some ⟨cb, 0, none⟩)) (.int .i64 i) w := by
  obtain ⟨A4, c4, e4, hPl, hPm, _⟩ := slice_form hP
  subst e4
  have hiM : i < M := by omega
  unfold ref06_read.b20
  refine ref06_read.l22_intro _ _ _ _ _ _ _ _ (fun y w' => ∃ (k : Nat) (at3 : List (List Spt)), y = .int .i64 k ∧ k ≤ (at2.getD i []).length ∧ Grew (i + 1) at2 at3 ∧ (∀ j t, j < k → (at2.getD i [])[j]? = some t → ∀ x, row[i]? = some x → (rightOf P t)[t.2.1]? = some x → nxt t ∈ at3.getD (i + 1) []) ∧ St noB w0 w' [chartC cb vT vN start (.slice A4 P.length c4) P M at3]) (fun y _ => (at2.getD i []).length - iv y)
    ⟨0, at2, rfl, by omega, Grew.refl hfr, by omega, s⟩ ?_
  rintro _ w1 ⟨k, at3, rfl, hk, hg, hno, s1⟩ C hC
  obtain ⟨⟨ga, ac, hrd⟩, hlen3, hpo⟩ := chart_rd s1 (k := 0) rfl (by omega)
  have hle := (hpo i).len
  have hAM : off P P.length * M ≤ 26000000 := by have := Nat.mul_le_mul hA hM; omega
  have e3 := hg.other i (by omega)
  obtain ⟨A, c, ha, hcells⟩ := hrd.pl i hiM
  rw [e3] at ha hcells hle
  have hra := hrd.a
  simp -dsimp [go_sem, hra, hiM, ha]
  refine SPL_intro (fun p1 => ?_) (fun p1 => ?_) <;> simp at p1
  · obtain ⟨t, ht⟩ : ∃ t, (at2.getD i [])[k]? = some t := by
      rw [List.getD_eq_getElem?_getD]
      exact ⟨_, List.getElem?_eq_getElem p1⟩
    obtain ⟨b, rfl, q1, q2, q3⟩ := hcells k t ht
    have hot := (hpo i).ok t (by rw [e3]; exact List.mem_of_getElem? ht)
    have wk : IntKind.i64.wrap ((k : Int) + 1) = (k : Int) + 1 := IntWalk.i64_in _ (by omega)
    have s2 := s1.alloc #[.int .i64 t.1, .int .i64 t.2.1, .int .i64 t.2.2] 137
    have h72 := s2.chg.at h7 id
    have z2 := s2.box 1 rfl
    simp only [boxAt] at z2
    obtain ⟨bt, ot, vt, eT, hbt, t1, t2, t3, hrt, _⟩ := prods_at (Rep.below hP (s2.chg.below hB fun _ _ => id)) hot.1
    subst eT
    obtain ⟨Ar, cr, rfl, hrl, hrm, _⟩ := slice_form hrt
    unfold ref06_read.b27
    simp -dsimp [go_sem, hra, hiM, ha, p1, q1, q2, q3, h72, hot.1, t2]
    have hbl2 := s2.chg.below hB fun _ _ => id
    clear h72 z2 t1 t2 t3
    generalize w1.alloc (.cells #[.int .i64 t.1, .int .i64 t.2.1, .int .i64 t.2.2] 137) = w2 at s2 hbl2 hrt ⊢
    generalize w1.heap.size = q2' at s2 ⊢
    have s3 := s2.old ((Chg.refl noB w2).drew)
    obtain ⟨rt, er⟩ : ∃ rt, (P[t.1]'hot.1).2.1 = rt := ⟨_, rfl⟩
    have ert : rightOf P t = rt := by rw [← er]; have h := hot.1; simp [rightOf, h]
    rw [er] at hrt hrl ⊢
    have hskip : ∀ w' at4, Grew (i + 1) at3 at4 → St noB w0 w' [chartC cb vT vN start (.slice (some ⟨bt, ot, none⟩) P.length c4) P M at4] → (∀ x, row[i]? = some x → (rightOf P t)[t.2.1]? = some x → nxt t ∈ at4.getD (i + 1) []) → ref06_read.b25 R C13 C (.int .i64 k) w' := by
      intro w' at4 h0 h1 h2
      unfold ref06_read.b25
      simp -dsimp [go_sem, wk]
      refine hC _ _ ⟨k + 1, at4, by simp, by rw [List.getD_eq_getElem?_getD]; omega, hg.trans h0, fun j t' hj ht' x hx hx' => ?_, h1⟩ (by simp [iv]; omega)
      rcases Nat.lt_or_ge j k with h4 | h4
      · obtain ⟨m, e⟩ := h0.self
        rw [e]
        exact List.mem_append_left _ (hno j t' h4 ht' x hx hx')
      · have : j = k := by omega
        subst this
        rw [ht] at ht'
        injection ht' with ht'
        subst ht'
        exact h2 x hx hx'
    have z3 := s3.box 1 rfl
    simp only [boxAt] at z3
    have hgr3 : Grew (i + 1) at3 at3 := Grew.refl hg.fr
    refine SPL_intro (fun p2 => ?_) (fun p2 => ?_) <;> simp at p2
    · obtain ⟨br, or', eAr, hbr, cx, hxin⟩ := Go.Px.ints_at (Rep.below hrt ((Chg.refl noB w2).drew.below (by have := s2.chg.size; omega) fun _ _ => id)) p2
      subst eAr
      obtain ⟨bw, ow, eAw, hbw, cxw, hxw⟩ := Go.Px.ints_at (Rep.below hrow (s3.chg.below hB fun _ _ => id)) hi
      subst eAw
      unfold ref06_read.b27_1
      simp -dsimp [go_sem, z3, p2, cx, hi, cxw]
      unfold ref06_read.b28
      refine SPL_intro (fun p3 => ?_) (fun p3 => ?_) <;> simp at p3
      · have wd : IntKind.i64.wrap ((t.2.1 : Int) + 1) = (t.2.1 : Int) + 1 := IntWalk.i64_in _ (by unfold maxLen at hrm; omega)
        have wi : IntKind.i64.wrap ((i : Int) + 1) = (i : Int) + 1 := IntWalk.i64_in _ (by omega)
        unfold ref06_read.b28_1
        simp -dsimp [go_sem, z3, wd, wi]
        have hso : sOk P M (nxt t) := ⟨hot.1, by show t.2.1 + 1 ≤ (rightOf P t).length; rw [ert]; omega, hot.2.2⟩
        have had : Ct Try.prog ref06_chart_add.id #[.pointer (some ⟨cb, 0, none⟩), .int .i64 ((i : Int) + 1), .agg #[.int .i64 (t.1 : Nat), .int .i64 ((t.2.1 : Int) + 1), .int .i64 (t.2.2 : Nat)]] w2.drew _ := add_ct s3 (k := 0) rfl (pl := i + 1) (by omega) (sp := nxt t) hso hM hA
        refine CALL_of had ?_
        rintro _ w4 ⟨rfl, s4⟩
        have hfrt : t.2.2 ≤ i + 1 := by have := hg.fr i t (by rw [e3]; exact List.mem_of_getElem? ht); omega
        by_cases hm : nxt t ∈ at3.getD (i + 1) []
        · rw [if_pos hm] at s4
          exact hskip _ at3 hgr3 (s4.take 1) fun _ _ _ => hm
        · rw [if_neg hm] at s4
          refine hskip _ _ (hgr3.put (s := nxt t) (by rw [hlen3]; omega) hfrt) (s4.take 1) fun _ _ _ => ?_
          rw [putS_self (by rw [hlen3]; omega)]
          exact List.mem_append_right _ (by simp)
      · refine hskip _ at3 hgr3 (s3.take 1) fun x hx hx' => ?_
        rw [ert, List.getElem?_eq_getElem p2] at hx'
        rw [List.getElem?_eq_getElem hi] at hx
        injection hx with hx; injection hx' with hx'
        exact absurd (hx'.trans hx.symm) p3
    · unfold ref06_read.b28
      simp -dsimp [go_sem]
      refine hskip _ at3 hgr3 (s3.take 1) fun x hx hx' => ?_
      rw [ert, List.getElem?_eq_none p2] at hx'
      cases hx'
  · have hke : k = (at2.getD i []).length := by
      rw [List.getD_eq_getElem?_getD] at hk ⊢; omega
    refine hgo _ at3 hg (fun t ht x hx hx' => ?_) s1
    obtain ⟨j, hj, rfl⟩ := List.getElem_of_mem ht
    exact hno j _ (by rw [hke]; exact hj) (List.getElem?_eq_getElem hj) x hx hx'
theorem read_out {w : World} {at0 : List (List Spt)} {M : Nat} {nT : Int} {R : Ending → World → Prop}
    (s : St noB w0 w [chartC cb vT vN start vP P M at0]) (hP : (rSlice rPr).at1 w0 B vP P) (hB : B ≤ w0.heap.size) (hrow : (rSlice rInt).at1 w0 B (.slice Aw row.length cw) row) (h7 : w0.cell? ⟨q7, 4, none⟩ = some vP) (h70 : q7 < w0.heap.size)
    (hfr : FrLe at0) (hMr : M = row.length + 1) (hM : M ≤ 13) (hA : off P P.length ≤ 2000000) (hch : ChartP P row start at0 0) (hder : DerS nT P row [start] 0 row.length) (hst : nT ≤ start)
    (hR : ∀ w' at', ChartP P row start at' row.length → St noB w0 w' [chartC cb vT vN start vP P M at'] → R (.returned (.tuple #[.pointer (some ⟨cb, 0, none⟩), .int .i64 row.length])) w') :
    ref06_read.b11 R (.slice Aw row.length cw) (.pointer (some ⟨q7, 0, none⟩)) (.pointer (some ⟨cb, 0, none⟩)) w := by
  unfold ref06_read.b11
  refine ref06_read.l13_intro _ _ _ _ _ _ (fun y w' => ∃ (i : Nat) (at' : List (List Spt)), y = .int .i64 i ∧ i ≤ row.length ∧ FrLe at' ∧ ChartP P row start at' i ∧ St noB w0 w' [chartC cb vT vN start vP P M at']) (fun y _ => row.length - iv y)
    ⟨0, at0, rfl, by omega, hfr, hch, s⟩ ?_
  rintro _ w1 ⟨i, at1, rfl, hi, hfr1, hch1, s1⟩ C hC
  simp -dsimp [go_sem]
  refine SPL_intro (fun p1 => ?_) (fun p1 => ?_) <;> simp at p1
  · have wi : IntKind.i64.wrap ((i : Int) + 1) = (i : Int) + 1 := IntWalk.i64_in _ (by omega)
    refine scan_loop s1 hP hB hrow h7 h70 hfr1 p1 hMr hM hA fun w2 at2 hg2 hsc s2 => ?_
    obtain ⟨⟨ga, ac, hrd⟩, hlen2, hpo⟩ := chart_rd s2 (k := 0) rfl (by omega)
    have hiM : i + 1 < M := by omega
    have hiMz : (i : Int) + 1 < (M : Int) := by omega
    have hi0 : (0 : Int) ≤ (i : Int) + 1 := by omega
    obtain ⟨A, c, ha, hcells⟩ := hrd.pl (i + 1) hiM
    have hra := hrd.a
    have hne : (at2.getD (i + 1) []).length ≠ 0 := by
      obtain ⟨t, ht, x, hx, hx'⟩ := (chart_sent hch1 (by omega) hder hst).1 p1
      have := hsc t ht x hx hx'
      intro h0
      rw [List.length_eq_zero_iff.1 h0] at this
      cases this
    have hne' : ¬ ((at2.getD (i + 1) []).length = 0) := hne
    unfold ref06_read.b19
    simp -dsimp [go_sem, hra, wi, hiM, hiMz, hi0, ha]
    refine SPL_intro (fun p2 => ?_) (fun p2 => ?_)
    · exfalso
      simp at p2
      exact hne (by rw [List.getD_eq_getElem?_getD]; simp [p2])
    unfold ref06_read.b19_1
    simp -dsimp [go_sem, wi]
    have hfc : Ct Try.prog ref06_chart_fill.id #[.pointer (some ⟨cb, 0, none⟩), .int .i64 ((i : Int) + 1)] w2 _ := fill_ct s2 hP hB (fun _ _ => id) hg2.fr hiM hM hA
    refine CALL_of hfc ?_
    rintro _ w3 ⟨rfl, at3, hg3, hcl3, s3⟩
    unfold ref06_read.b16
    simp -dsimp [go_sem, wi]
    have hg := hg2.trans hg3
    refine hC _ _ ⟨i + 1, at3, by simp, by omega, hg3.fr, ⟨fun p hp e => ?_, fun j hj => ?_, fun j hj t ht x hx hx' => ?_⟩, s3⟩ (by simp [iv]; omega)
    · rw [hg.other 0 (by omega)]
      exact hch1.zero p hp e
    · rcases Nat.lt_or_ge j (i + 1) with h1 | h1
      · exact hg.cl h1 hfr1 (hch1.cl j (by omega))
      · have : j = i + 1 := by omega
        subst this
        exact hcl3
    · rw [hg.other j (by omega)] at ht
      rcases Nat.lt_or_ge j i with h1 | h1
      · rw [hg.other (j + 1) (by omega)]
        exact hch1.scan j h1 t ht x hx hx'
      · have : j = i := by omega
        subst this
        obtain ⟨m, e⟩ := hg3.self
        rw [e]
        exact List.mem_append_left _ (hsc t ht x hx hx')
  · have hie : i = row.length := by omega
    subst hie
    unfold ref06_read.b10
    simp -dsimp [go_sem]
    exact hR _ _ hch1 s1
theorem read_start {w : World} {at0 : List (List Spt)} {M : Nat} {nT : Int} {R : Ending → World → Prop}
    (s : St noB w0 w [chartC cb vT vN start vP P M at0]) (hP : (rSlice rPr).at1 w0 B vP P) (hB : B ≤ w0.heap.size) (hrow : (rSlice rInt).at1 w0 B (.slice Aw row.length cw) row) (h7 : w0.cell? ⟨q7, 4, none⟩ = some vP) (h2 : w0.cell? ⟨q2, 3, none⟩ = some (.int .i64 start))
    (h70 : q7 < w0.heap.size) (hfr : FrLe at0) (hMr : M = row.length + 1) (hM : M ≤ 13) (hA : off P P.length ≤ 2000000) (hder : DerS nT P row [start] 0 row.length) (hst : nT ≤ start)
    (hR : ∀ w' at', ChartP P row start at' row.length → St noB w0 w' [chartC cb vT vN start vP P M at'] → R (.returned (.tuple #[.pointer (some ⟨cb, 0, none⟩), .int .i64 row.length])) w') :
    ref06_read.b29 R (.slice Aw row.length cw) (.pointer (some ⟨q2, 0, none⟩)) (.pointer (some ⟨q7, 0, none⟩)) (.pointer (some ⟨cb, 0, none⟩)) w := by
  obtain ⟨A4, c4, e4, hPl, hPm, _⟩ := slice_form hP
  subst e4
  have hPlen : P.length ≤ 2000000 := Nat.le_trans (off_ge P) hA
  unfold ref06_read.b29
  refine ref06_read.l31_intro _ _ _ _ _ _ _ (fun y w' => ∃ (p : Nat) (at' : List (List Spt)), y = .int .i64 p ∧ p ≤ P.length ∧ FrLe at' ∧ (∀ q (hq : q < P.length), q < p → P[q].1 = start → (q, 0, 0) ∈ at'.getD 0 []) ∧ St noB w0 w' [chartC cb vT vN start (.slice A4 P.length c4) P M at']) (fun y _ => P.length - iv y)
    ⟨0, at0, rfl, by omega, hfr, by omega, s⟩ ?_
  rintro _ w1 ⟨p, at1, rfl, hp, hfr1, hz1, s1⟩ C hC
  have wi : IntKind.i64.wrap ((p : Int) + 1) = (p : Int) + 1 := IntWalk.i64_in _ (by omega)
  obtain ⟨_, hlen1, _⟩ := chart_rd s1 (k := 0) rfl (by omega)
  have hbl := s1.chg.below hB fun _ _ => id
  have k7 := s1.chg.at h7 id
  have k2 := s1.chg.at h2 id
  simp -dsimp [go_sem, k7]
  refine SPL_intro (fun p1 => ?_) (fun p1 => ?_) <;> simp at p1
  · obtain ⟨bp, op, vr, eA, hbp, x1, x2, x3, _, _⟩ := prods_at (Rep.below hP hbl) p1
    subst eA
    have hgo : ∀ w' at', FrLe at' → (∀ q (hq : q < P.length), q < p + 1 → P[q].1 = start → (q, 0, 0) ∈ at'.getD 0 []) → St noB w0 w' [chartC cb vT vN start (.slice (some ⟨bp, op, none⟩) P.length c4) P M at'] → ref06_read.b33 R C (.int .i64 p) w' := by
      intro w' at' h1 h2 h3
      unfold ref06_read.b33
      simp -dsimp [go_sem, wi]
      exact hC _ _ ⟨p + 1, at', by simp, by omega, h1, h2, h3⟩ (by simp [iv]; omega)
    have s2 := s1.old ((Chg.refl noB w1).drew)
    unfold ref06_read.b32_2
    simp -dsimp [go_sem, k7, p1, x1, k2]
    refine SPL_intro (fun p2 => ?_) (fun p2 => ?_) <;> simp at p2
    · unfold ref06_read.b32_1
      simp -dsimp [go_sem]
      have hso : sOk P M (p, 0, 0) := ⟨p1, Nat.zero_le _, by show 0 < M; omega⟩
      have had : Ct Try.prog ref06_chart_add.id #[.pointer (some ⟨cb, 0, none⟩), .int .i64 0, .agg #[.int .i64 (p : Nat), .int .i64 0, .int .i64 0]] w1.drew _ := add_ct s2 (k := 0) rfl (pl := 0) (by omega) (sp := (p, 0, 0)) hso hM hA
      refine CALL_of had ?_
      rintro _ w3 ⟨rfl, s3⟩
      by_cases hm : (p, 0, 0) ∈ at1.getD 0 []
      · rw [if_pos hm] at s3
        refine hgo _ _ hfr1 (fun q hq hlt e => ?_) (s3.take 1)
        rcases Nat.lt_or_ge q p with h4 | h4
        · exact hz1 q hq h4 e
        · have : q = p := by omega
          subst this; exact hm
      · rw [if_neg hm] at s3
        refine hgo _ _ ((Grew.refl hfr1).put (pl := 0) (s := (p, 0, 0)) (by rw [hlen1]; omega) (Nat.le_refl _)).fr (fun q hq hlt e => ?_) (s3.take 1)
        rw [putS_self (by rw [hlen1]; omega)]
        rcases Nat.lt_or_ge q p with h4 | h4
        · exact List.mem_append_left _ (hz1 q hq h4 e)
        · have : q = p := by omega
          subst this
          exact List.mem_append_right _ (by simp)
    · refine hgo _ _ hfr1 (fun q hq hlt e => ?_) s2
      rcases Nat.lt_or_ge q p with h4 | h4
      · exact hz1 q hq h4 e
      · have : q = p := by omega
        subst this
        exact absurd e p2
  · have hpe : p = P.length := by omega
    subst hpe
    unfold ref06_read.b8
    have hfc : Ct Try.prog ref06_chart_fill.id #[.pointer (some ⟨cb, 0, none⟩), .int .i64 0] w1 _ := fill_ct s1 hP hB (fun _ _ => id) hfr1 (pl := 0) (by omega) hM hA
    refine CALL_of hfc ?_
    rintro _ w3 ⟨rfl, at3, hg3, hcl3, s3⟩
    refine read_out s3 hP hB hrow h7 h70 hg3.fr hMr hM hA ⟨fun q hq e => ?_, fun j hj => ?_, fun j hj => by omega⟩ hder hst hR
    · obtain ⟨m, e'⟩ := hg3.self
      rw [e']
      exact List.mem_append_left _ (hz1 q hq hq e)
    · have : j = 0 := by omega
      subst this
      exact hcl3
end
end Go.Proofs.Ytkacbjhiobnbfaa

/-
  The document's answer for reach: a chart is made.
-/
namespace Go.Px
theorem allOk.rev {L : List Ch} {w : World} {F : Nat → Prop} (h : allOk L w F) : allOk L.reverse w F := by
  obtain ⟨T, ht, hk⟩ := h
  refine ⟨fun i => if T i = 0 then 0 else L.length + 1 - T i, fun i hi => ht i (fun e => hi (if_pos e)), fun k c hc => ?_⟩
  have hkl : k < L.length := by simpa using (List.getElem?_eq_some_iff.1 hc).1
  have hc' : L[L.length - 1 - k]? = some c := by rw [List.getElem?_reverse hkl] at hc; exact hc
  refine c.keep (X := noB) (hk _ c hc') (Chg.refl _ _) (fun _ _ _ => id) fun i _ e => ?_
  have e : T i = L.length - 1 - k + 1 := e
  show (if T i = 0 then 0 else _) = k + 1
  rw [if_neg (by omega)]; omega
/-- Rows that are nil. -/
theorem nil_rows (e : TypeId) (size n : Nat) (w : World) (F : Nat → Prop) : allOk (List.replicate n (rowC e size none 0 0 [])) w F :=
  ⟨fun _ => 0, fun i h => absurd rfl h, fun k c hk => by
    obtain ⟨_, rfl⟩ := List.getElem?_eq_some_iff.1 hk
    rw [List.getElem_replicate]
    exact rowC_nil w e size _⟩
end Go.Px
namespace Go.Proofs.Ytkacbjhiobnbfaa
open Go.Px Go.Px.Scan Go.RowKit
set_option maxHeartbeats 1000000
set_option linter.unusedSimpArgs false
set_option linter.unusedVariables false
set_option maxRecDepth 100000
attribute [-go_sem] Builtin.append_ ref06_read.b29 ref06_read.b34 ref06_read.b37_1 ref06_read.b5 ref06_read.b41_1 ref06_read.b38
theorem iSpots : (Try.prog.info? 131).map (fun i => (i.zero, i.size, i.bytes)) = some (some (.slice none 0 0), 1, 24) := by kernel_rfl
theorem iFlags : (Try.prog.info? 68).map (fun i => (i.zero, i.size, i.bytes)) = some (some (.slice none 0 0), 1, 24) := by kernel_rfl
theorem mkSpots (w : World) (n : Nat) (h : n ≤ 1000000) : (Instr.makeSlice 133 (.int .i64 n) (.int .i64 n)).run Try.prog w = .ok (.slice (some ⟨w.heap.size, 0, none⟩) n n) (w.alloc (.cells (Array.replicate n (Value.slice none 0 0)) 131)) := by
  obtain ⟨i0, hi, hz0, hz1, hz2⟩ := info_parts iSpots
  have := run_make (P := Try.prog) w 133 131 i0 _ Try.underlying133 hi hz0 .i64 .i64 n n (by omega) (by omega) (by rw [hz2]; omega) (by omega)
  rw [this]
  have e : madeCells (Value.slice none 0 0).cells ((n : Int).toNat * i0.size) = Array.replicate n (Value.slice none 0 0) := by
    rw [hz1, Nat.mul_one, Int.toNat_natCast]
    have := toList_madeCells_one (Value.slice none 0 0) n
    apply Array.toList_inj.1
    rw [Array.toList_replicate]
    exact this
  rw [e]
  simp
def bBox (cb : Nat) (vT vN : Value) (start : Int) (vP : Value) (ha : Option Addr) (k hc : Nat) (aa : Option Addr) (m ac : Nat) (ba : Option Addr) (p bc n : Nat) : Ch :=
  boxC cb 135 [vT, vN, .slice none 0 0, .int .i64 start, vP, .slice ha k hc, .slice aa m ac, .slice ba p bc, .int .i64 (n : Nat)]
/-- What is there while the flags are made. -/
def bL (cb : Nat) (vT vN : Value) (start : Int) (vP : Value) (P : Prl) (M : Nat) (aa : Option Addr) (ac : Nat) (ba : Option Addr) (bc : Nat) (k : Nat) (ha : Option Addr) (hc : Nat) (H : List Nat) : List Ch :=
  [bBox cb vT vN start vP ha k hc aa M ac ba P.length bc (off P P.length), rowC 131 1 aa M ac (List.replicate M (.slice none 0 0)), rowC 3 1 ba P.length bc (natI (baseL P)),
   rowC 68 1 ha k hc (H.map fun b => .slice (some ⟨b, 0, none⟩) (off P P.length * M) (off P P.length * M)),
   Ch.all (H.map fun b => rowC 4 1 (some ⟨b, 0, none⟩) (off P P.length * M) (off P P.length * M) (boolV (List.replicate (off P P.length * M) false))).reverse]
section
variable {w0 : World} {cb B q2 q7 : Nat} {vT vN vP : Value} {start : Int} {P : Prl} {row : List Int} {Aw aa ba : Option Addr} {cw ac bc : Nat}
theorem made_chart {w : World} {M : Nat} {ha : Option Addr} {hc : Nat} {H : List Nat} (s : St noB w0 w (bL cb vT vN start vP P M aa ac ba bc M ha hc H)) (hH : H.length = M) : St noB w0 w [chartC cb vT vN start vP P M (List.replicate M [])] := by
  have s1 := s.turn (k := 4) rfl (d := Ch.all (H.map fun b => rowC 4 1 (some ⟨b, 0, none⟩) (off P P.length * M) (off P P.length * M) (boolV (List.replicate (off P P.length * M) false)))) fun F h => by
    have := allOk.rev h
    rw [List.reverse_reverse] at this
    exact this
  have s2 := s1.push (c := Ch.all (List.replicate M (rowC 137 3 none 0 0 []))) (nil_rows 137 3 M w noB)
  have s3 := (s2.pick (L' := [_, _, _, _, _, _]) [0, 1, 3, 2, 5, 4] (by decide) rfl).group
  refine s3.turn (k := 0) rfl fun F h => ?_
  refine ⟨⟨⟨List.replicate M (none, 0, []), H.map fun b => (b, List.replicate (off P P.length * M) false)⟩, ⟨aa, ac⟩, ⟨ha, hc⟩, ⟨ba, bc⟩⟩, ⟨by simp, by simp [hH], by simp, fun l hl => ?_, fun i hi => ?_⟩, ?_⟩
  · rw [(List.mem_replicate.1 hl).2]
    exact ⟨by simp, by simp⟩
  · have e : (List.replicate M ([] : List Spt)).getD i [] = [] := by
      rw [List.getD_eq_getElem?_getD, List.getElem?_replicate_of_lt hi]; rfl
    rw [e]
    simp only [List.getElem_map]
    refine ⟨by simp, fun c hc => ?_⟩
    rw [List.getElem?_replicate_of_lt hc]
    simp
  · unfold chL
    simp only [List.map_replicate, List.length_nil, List.flatMap_nil, List.map_map]
    exact h
theorem read_flags {w : World} {M : Nat} {nT : Int} {R : Ending → World → Prop}
    (s : St noB w0 w (bL cb vT vN start vP P M aa ac ba bc 0 none 0 [])) (hP : (rSlice rPr).at1 w0 B vP P) (hB : B ≤ w0.heap.size) (hrow : (rSlice rInt).at1 w0 B (.slice Aw row.length cw) row) (h7 : w0.cell? ⟨q7, 4, none⟩ = some vP) (h2 : w0.cell? ⟨q2, 3, none⟩ = some (.int .i64 start))
    (h70 : q7 < w0.heap.size) (hMr : M = row.length + 1) (hM : M ≤ 13) (hA : off P P.length ≤ 2000000) (hder : DerS nT P row [start] 0 row.length) (hst : nT ≤ start)
    (hR : ∀ w' at', ChartP P row start at' row.length → St noB w0 w' [chartC cb vT vN start vP P M at'] → R (.returned (.tuple #[.pointer (some ⟨cb, 0, none⟩), .int .i64 row.length])) w') :
    ref06_read.b34 R (.slice Aw row.length cw) (.pointer (some ⟨q2, 0, none⟩)) (.pointer (some ⟨q7, 0, none⟩)) (.pointer (some ⟨cb, 0, none⟩)) w := by
  have hAM : off P P.length * M ≤ 26000000 := by have := Nat.mul_le_mul hA hM; omega
  unfold ref06_read.b34
  refine ref06_read.l36_intro _ _ _ _ _ _ _ (fun y w' => ∃ (k : Nat) (ha : Option Addr) (hc : Nat) (H : List Nat), y = .int .i64 k ∧ k ≤ M ∧ H.length = k ∧ St noB w0 w' (bL cb vT vN start vP P M aa ac ba bc k ha hc H)) (fun y _ => M - iv y)
    ⟨0, none, 0, [], rfl, by omega, rfl, s⟩ ?_
  rintro _ w1 ⟨k, ha, hc, H, rfl, hk, hH, s1⟩ C hC
  simp -dsimp [go_sem]
  refine SPL_intro (fun p1 => ?_) (fun p1 => ?_) <;> simp at p1
  · have wk : IntKind.i64.wrap ((k : Int) + 1) = (k : Int) + 1 := IntWalk.i64_in _ (by omega)
    have wm : IntKind.i64.wrap ((row.length : Int) + 1) = (M : Int) := by rw [IntWalk.i64_in _ (by omega)]; omega
    obtain ⟨N, hN⟩ : ∃ N, off P P.length * M = N := ⟨_, rfl⟩
    have wn : IntKind.i64.wrap ((off P P.length : Int) * (M : Int)) = (N : Int) := by
      have e : (off P P.length : Int) * (M : Int) = (N : Int) := by rw [← hN]; simp
      rw [e]; exact IntWalk.i64_in _ (by omega)
    have y1 := s1.box 0 rfl
    simp [boxAt] at y1
    have s1d := s1.old ((Chg.refl noB w1).drew)
    unfold ref06_read.b37_1
    simp -dsimp [go_sem, y1, wm, wn]
    clear y1 s1
    generalize w1.drew = wd at s1d ⊢
    have s2 := s1d.lit 4 1 N (Array.replicate N (Value.bool false)) (by unfold maxLen; omega) (by simp)
    have y2 := s2.box 0 rfl
    simp [boxAt] at y2
    simp -dsimp [go_sem, mkFlags wd N (by unfold maxBytes; omega), y2]
    clear y2
    have hsz : (wd.alloc (.cells (Array.replicate N (Value.bool false)) 4)).heap.size = wd.heap.size + 1 := by simp
    generalize wd.alloc (.cells (Array.replicate N (Value.bool false)) 4) = we at s2 hsz ⊢
    generalize wd.heap.size = fb at s2 hsz ⊢
    rw [← hsz]
    have hH3 := (s2.rowSize 3 rfl).1
    rw [List.length_map, hH, Nat.mul_one] at hH3
    refine s2.append1 3 rfl Try.underlying132 iFlags rfl (by decide) (news := [.slice (some ⟨fb, 0, none⟩) N N]) rfl (by simp [Value.oneCell']) (by unfold maxLen; omega) (by unfold maxBytes; omega) ?_
    intro g cap w5 s5
    have y5 := s5.box 0 rfl
    simp [boxAt] at y5
    have s6 := s5.set 0 rfl 5 (.slice (some ⟨g, 0, none⟩) (k + 1) cap)
    simp -dsimp [go_sem, y5, wk]
    refine hC _ _ ⟨k + 1, some ⟨g, 0, none⟩, cap, H ++ [fb], by simp, by omega, by simp [hH], ?_⟩ (by simp [iv]; omega)
    have s7 := ((s6.pick (L' := [_, _, _, _] ++ [_, _]) [0, 1, 2, 3, 5, 4] (by decide) rfl).flat (L := [_, _, _, _, _])).unflat (L := [_, _, _, _]) (L' := _ :: _)
    unfold bL
    rw [hN, List.map_append, List.map_append, List.reverse_append]
    rw [hN] at s7
    rw [Array.toList_replicate] at s7
    have eB : boolV (List.replicate N false) = List.replicate N (Value.bool false) := by simp [boolV]
    rw [eB] at s7 ⊢
    exact s7
  · have hke : k = M := by omega
    subst hke
    exact read_start (made_chart s1 hH) hP hB hrow h7 h2 h70 (fun i t ht => by
      rw [List.getD_eq_getElem?_getD, List.getElem?_replicate] at ht
      split at ht <;> simp at ht) hMr hM hA hder hst hR
theorem read_base {w : World} {M : Nat} {nT : Int} {R : Ending → World → Prop}
    (s : St noB w0 w [bBox cb vT vN start vP none 0 0 none 0 0 none 0 0 0]) (hP : (rSlice rPr).at1 w0 B vP P) (hB : B ≤ w0.heap.size) (hrow : (rSlice rInt).at1 w0 B (.slice Aw row.length cw) row) (h7 : w0.cell? ⟨q7, 4, none⟩ = some vP) (h2 : w0.cell? ⟨q2, 3, none⟩ = some (.int .i64 start))
    (h70 : q7 < w0.heap.size) (hMr : M = row.length + 1) (hM : M ≤ 13) (hA : off P P.length ≤ 2000000) (hder : DerS nT P row [start] 0 row.length) (hst : nT ≤ start)
    (hR : ∀ w' at', ChartP P row start at' row.length → St noB w0 w' [chartC cb vT vN start vP P M at'] → R (.returned (.tuple #[.pointer (some ⟨cb, 0, none⟩), .int .i64 row.length])) w') :
    ref06_read.b38 R (.slice Aw row.length cw) (.pointer (some ⟨q2, 0, none⟩)) (.pointer (some ⟨q7, 0, none⟩)) (.pointer (some ⟨cb, 0, none⟩)) w := by
  obtain ⟨A4, c4, e4, hPl, hPm, _⟩ := slice_form hP
  subst e4
  have hPlen : P.length ≤ 2000000 := Nat.le_trans (off_ge P) hA
  unfold ref06_read.b38
  refine ref06_read.l40_intro _ _ _ _ _ _ _ (fun y w' => ∃ (k : Nat) (ba : Option Addr) (bc : Nat), y = .int .i64 k ∧ k ≤ P.length ∧ St noB w0 w' [bBox cb vT vN start (.slice A4 P.length c4) none 0 0 none 0 0 ba k bc (off P k), rowC 3 1 ba k bc (natI ((List.range k).map (off P)))]) (fun y _ => P.length - iv y)
    ⟨0, none, 0, rfl, by omega, by rw [off_zero]; exact s.nilRow 3 1⟩ ?_
  rintro _ w1 ⟨k, ba, bc, rfl, hk, s1⟩ C hC
  have wk : IntKind.i64.wrap ((k : Int) + 1) = (k : Int) + 1 := IntWalk.i64_in _ (by omega)
  have k7 := s1.chg.at h7 id
  have y1 := s1.box 0 rfl
  simp [boxAt] at y1
  simp -dsimp [go_sem, k7]
  refine SPL_intro (fun p1 => ?_) (fun p1 => ?_) <;> simp at p1
  · obtain ⟨bp, op, vr, eA, hbp, x1, x2, x3, hr, _⟩ := prods_at hP p1
    subst eA
    obtain ⟨Ar, cr, rfl, hrl, hrm, _⟩ := slice_form hr
    have hofs := off_succ p1
    have hofl := off_le (P := P) (i := k + 1) p1
    obtain ⟨rl, hrl'⟩ : ∃ rl, P[k].2.1.length = rl := ⟨_, rfl⟩
    rw [hrl'] at hofs hrl x2
    have wa : IntKind.i64.wrap ((off P k : Int) + (rl : Int)) = ((off P k + rl : Nat) : Int) := by rw [IntWalk.i64_in _ (by omega)]; simp
    have wb : IntKind.i64.wrap (IntKind.i64.wrap ((off P k : Int) + (rl : Int)) + 1) = (off P (k + 1) : Int) := by rw [wa, IntWalk.i64_in _ (by omega), hofs]; omega
    have wc : IntKind.i64.wrap (((off P k + rl : Nat) : Int) + 1) = (off P (k + 1) : Int) := by rw [← wa]; exact wb
    have wz : IntKind.i64.wrap ((off P k : Int) + (rl : Int) + 1) = (off P (k + 1) : Int) := by rw [IntWalk.i64_in _ (by omega), hofs]; omega
    have s1d := s1.old ((Chg.refl noB w1).drew)
    have s2 := s1d.lit 3 1 1 #[.int .i64 (off P k : Nat)] (by simp [maxLen]) rfl
    have y2 := s2.box 0 rfl
    simp [boxAt] at y2
    unfold ref06_read.b41_1
    simp -dsimp [go_sem, y1, y2]
    clear y1 y2 s2 s1d
    refine s1.append1d 1 rfl uInts iInt rfl (by decide) (news := [.int .i64 (off P k : Nat)]) rfl (by simp [Value.oneCell']) (by unfold maxLen; omega) (by unfold maxBytes; omega) ?_
    intro g cap w5 s5
    have y5 := s5.box 0 rfl
    simp [boxAt] at y5
    have s6 := s5.set 0 rfl 7 (.slice (some ⟨g, 0, none⟩) (k + 1) cap)
    have k76 := s5.chg.at h7 id
    have x26 := s6.chg.at x2 id
    simp -dsimp [go_sem, y5, k76]
    clear y5 k7
    generalize w5.setCell ⟨cb, 7, none⟩ (.slice (some ⟨g, 0, none⟩) (k + 1) cap) = w6 at s6 x26 ⊢
    have y6 := s6.box 0 rfl
    simp [boxAt] at y6
    simp -dsimp [go_sem, y6, x26, p1, wk]
    have s7 := (s6.set 0 rfl 8 (.int .i64 (off P (k + 1) : Nat))).old ((Chg.refl noB _).drew)
    refine hC _ _ ⟨k + 1, some ⟨g, 0, none⟩, cap, by simp, by omega, ?_⟩ (by simp [iv]; omega)
    have e : natI ((List.range (k + 1)).map (off P)) = natI ((List.range k).map (off P)) ++ [.int .i64 (off P k : Nat)] := by simp [natI, List.range_succ]
    rw [e, wb]
    exact s7
  · have hke : k = P.length := by omega
    subst hke
    have wm : IntKind.i64.wrap ((row.length : Int) + 1) = (M : Int) := by rw [IntWalk.i64_in _ (by omega)]; omega
    have s2 := s1.lit 131 1 M (Array.replicate M (Value.slice none 0 0)) (by unfold maxLen; omega) (by simp)
    rw [Array.toList_replicate] at s2
    have y2 := s2.box 0 rfl
    simp [boxAt] at y2
    unfold ref06_read.b5
    simp -dsimp [go_sem, wm, mkSpots w1 M (by omega), y2]
    have s3 := s2.set 0 rfl 6 (.slice (some ⟨w1.heap.size, 0, none⟩) M M)
    have s4 := (s3.nilRow 68 1).push (c := Ch.all []) (nil_rows 137 3 0 _ noB)
    refine read_flags (s4.pick (L' := bL cb vT vN start (.slice A4 P.length c4) P M (some ⟨w1.heap.size, 0, none⟩) M ba bc 0 none 0 []) [0, 2, 1, 3, 4] (by decide) rfl) hP hB hrow h7 h2 h70 hMr hM hA hder hst hR
end
end Go.Proofs.Ytkacbjhiobnbfaa

/-
  The document's answer for reach: read; Sentence.
-/
namespace Go.Px.Scan
open Go.Px
theorem off_sum : ∀ P : Prl, off P P.length = (P.map fun p => p.2.1.length + 1).sum
  | [] => rfl
  | p :: P => by
    simp only [List.length_cons, off, List.map_cons, List.sum_cons, off_sum P]
theorem off_filter (f : Int × List Int × Int → Bool) : ∀ P : Prl, off (P.filter f) (P.filter f).length ≤ off P P.length
  | [] => Nat.le_refl _
  | p :: P => by
    have := off_filter f P
    rw [off_sum, off_sum] at this ⊢
    rw [List.filter_cons, List.map_cons, List.sum_cons]
    split
    · rw [List.map_cons, List.sum_cons]; omega
    · omega
end Go.Px.Scan
namespace Go.Proofs.Ytkacbjhiobnbfaa
open Go.Px Go.Px.Scan Go.RowKit
set_option maxHeartbeats 1000000
set_option linter.unusedSimpArgs false
set_option linter.unusedVariables false
set_option maxRecDepth 100000
attribute [-go_sem] Builtin.append_ ref06_read.b1_1 ref06_read.b42 ref06_read.b45_2 ref06_read.b45_1 ref06_read.b46 ref06_read.b3 ref06_read.b38
theorem bUse (a b : Option Addr) (m n c d : Nat) (x : Int) (w : World) : (Instr.build 27 #[(0, .slice a m c), (1, .slice b n d), (3, .int .i64 x)]).run Try.prog w = .ok (.agg #[.slice a m c, .slice b n d, .slice none 0 0, .int .i64 x, .slice none 0 0]) w := by simp [go_sem]
theorem bChart (a b c d : Option Addr) (m n o p e f g h : Nat) (x : Int) (w : World) : (Instr.build 135 #[(0, .agg #[.slice a m e, .slice b n f, .slice c o g, .int .i64 x, .slice d p h])]).run Try.prog w = .ok (.agg #[.slice a m e, .slice b n f, .slice c o g, .int .i64 x, .slice d p h, .slice none 0 0, .slice none 0 0, .slice none 0 0, .int .i64 0]) w := by simp [go_sem]
attribute [go_sem ↓] bUse bChart
theorem read_ct {w : World} {B : Nat} {vg vr : Value} {g : Gr} {row : List Int} (hg : rGram.atN w B vg g) (hrow : (rSlice rInt).at1 w B vr row) (hB : B ≤ w.heap.size) (hcl : ClosedP g) (hA : off g.prods g.prods.length ≤ 2000000) (hlen : row.length ≤ 12)
    (hder : DerS g.terms.length g.prods row [g.start] 0 row.length) :
    Ct Try.prog ref06_read.id #[vg, vr] w fun v w' => ∃ cb w0 vT vN vP P at', v = .tuple #[.pointer (some ⟨cb, 0, none⟩), .int .i64 row.length] ∧ Chg noB w w0 ∧ (rSlice rPr).at1 w0 w0.heap.size vP P ∧ St noB w0 w' [chartC cb vT vN g.start vP P (row.length + 1) at'] ∧ ChartP P row g.start at' row.length ∧ DerS g.terms.length P row [g.start] 0 row.length ∧ off P P.length ≤ 2000000 := by
  refine ref06_read.ct fun R hR => ?_
  obtain ⟨A1, c1, A2, c2, A3, c3, A4, c4, rfl, ⟨m1, m2, m3, m4⟩, hst, hc0, hgr⟩ := box_all hg hB
  have hr4 : (rSlice rPr).at1 w B (.slice A4 g.prods.length c4) g.prods := by obtain ⟨_, _, _, _, _, _, _, _, e, _, _, _, _, h5, _⟩ := (rGram_open hg).ex; injection e with e; injection e with e; simp at e; rw [e.2.2.2.1, e.2.2.2.2]; exact h5
  obtain ⟨Aw, cw, rfl, hwl, hwm, _⟩ := slice_form hrow
  have hT := hcl.syms.t1
  have hN := hcl.syms.n1
  have hPl := hcl.prods.c1
  have s1 := (St.refl noB w).alloc #[.slice A1 g.terms.length c1, .slice A2 g.nons.length c2, .slice A3 g.levels.length c3, .int .i64 g.start, .slice A4 g.prods.length c4] 27
  unfold ref06_read.run
  simp -dsimp [go_sem]
  generalize w.alloc (.cells #[.slice A1 g.terms.length c1, .slice A2 g.nons.length c2, .slice A3 g.levels.length c3, .int .i64 g.start, .slice A4 g.prods.length c4] 27) = w1 at s1 hc0 hgr ⊢
  generalize w.heap.size = q2 at s1 hgr ⊢
  have y1 := (hgr w1 (Chg.refl _ _)).k
  have hbl1 : Below B w w1 := s1.chg.below hB fun _ _ => id
  refine CALL_of (Marks_ct (rGram_below hg hbl1) (by have := s1.chg.size; omega) hcl) ?_
  rintro _ w2 ⟨m, ms, rfl, hms, sm, hmc⟩
  have s2 := s1.seq sm
  clear sm
  have y2 := s2.box 0 rfl
  simp [boxAt] at y2
  unfold ref06_read.b1_1
  have s3 := (s2.alloc #[.slice A1 g.terms.length c1, .slice A2 g.nons.length c2, .slice none 0 0, .int .i64 g.start, .slice none 0 0] 27).nilRow 47 3
  simp -dsimp [go_sem, y2]
  generalize w2.alloc (.cells #[.slice A1 g.terms.length c1, .slice A2 g.nons.length c2, .slice none 0 0, .int .i64 g.start, .slice none 0 0] 27) = w3 at s3 ⊢
  generalize w2.heap.size = q7 at s3 ⊢
  clear y1 y2 s1 s2
  obtain ⟨f, hf⟩ : ∃ f : Int × List Int × Int → Bool, (fun p => p.2.1.all (okS g.terms.length ms)) = f := ⟨_, rfl⟩
  let UL : Option Addr → Nat → Nat → List ((Int × List Int × Int) × Value) → List Ch := fun Au nu cu E =>
    [boxC q2 27 [.slice A1 g.terms.length c1, .slice A2 g.nons.length c2, .slice A3 g.levels.length c3, .int .i64 g.start, .slice A4 g.prods.length c4], rowC 4 1 (some ⟨m, 0, none⟩) ms.length ms.length (boolV ms),
     boxC q7 27 [.slice A1 g.terms.length c1, .slice A2 g.nons.length c2, .slice none 0 0, .int .i64 g.start, .slice Au nu cu], rowC 47 3 Au nu cu (E.flatMap cPr)]
  unfold ref06_read.b42
  refine ref06_read.l44_intro _ _ _ _ _ _ _ (fun y w' => ∃ (i : Nat) (Au : Option Addr) (nu cu : Nat) (E : List ((Int × List Int × Int) × Value)), y = .int .i64 i ∧ i ≤ g.prods.length ∧ E.map (·.1) = (g.prods.take i).filter f ∧ E.length = nu ∧ (∀ e ∈ E, (rSlice rInt).at1 w B e.2 e.1.2.1 ∧ inI64 e.1.1 ∧ inI64 e.1.2.2) ∧ St noB w w' (UL Au nu cu E)) (fun y _ => g.prods.length - iv y)
    ⟨0, none, 0, 0, [], rfl, by omega, by simp, rfl, by simp, s3⟩ ?_
  rintro _ w4 ⟨i, Au, nu, cu, E, rfl, hi, hE, hEl, hEr, s4⟩ C hC
  have wi : IntKind.i64.wrap ((i : Int) + 1) = (i : Int) + 1 := IntWalk.i64_in _ (by omega)
  have y4 := s4.box 0 rfl
  simp [boxAt] at y4
  have hEn : nu ≤ i := by
    have := congrArg List.length hE
    rw [List.length_map, hEl] at this
    have h2 := List.length_filter_le f (g.prods.take i)
    rw [List.length_take] at h2; omega
  simp -dsimp [go_sem, y4]
  refine SPL_intro (fun p1 => ?_) (fun p1 => ?_) <;> simp at p1
  · obtain ⟨bp, op, vr, eA, hbp, x1, x2, x3, hr, z1, z2⟩ := prods_at hr4 p1
    subst eA
    have hx := hcl.syms' g.prods[i] (List.getElem_mem p1)
    have et : g.prods.take (i + 1) = g.prods.take i ++ [g.prods[i]] := List.take_succ_eq_append_getElem p1
    obtain ⟨Ar, cr, rfl, hrl, hrm, _⟩ := slice_form hr
    have x24 := s4.chg.at x2 id
    have hgo : ∀ w' Au nu cu E, E.map (·.1) = (g.prods.take (i + 1)).filter f → E.length = nu → (∀ e ∈ E, (rSlice rInt).at1 w B e.2 e.1.2.1 ∧ inI64 e.1.1 ∧ inI64 e.1.2.2) → St noB w w' (UL Au nu cu E) → ref06_read.b46 R C (.int .i64 i) w' := by
      intro w' Au nu cu E h1 h2 h3 h4
      unfold ref06_read.b46
      simp -dsimp [go_sem, wi]
      exact hC _ _ ⟨i + 1, Au, nu, cu, E, by simp, by omega, h1, h2, h3, h4⟩ (by simp [iv]; omega)
    have s5 := s4.old ((Chg.refl noB w4).drew)
    unfold ref06_read.b45_2
    simp -dsimp [go_sem, y4, p1, x24]
    clear y4 x24
    generalize w4.drew = w5 at s5 ⊢
    have hbl := s5.chg.below hB fun _ _ => id
    refine CALL_of (Fits_ct s5 (N := ms.length) rfl (k := 1) rfl (row := g.prods[i].2.1) (rGram_below hg hbl) (Rep.below hr hbl) (by have := s5.chg.size; omega) hT fun x hx2 => by have := (hx.2 x hx2).2; omega) ?_
    rintro _ w6 ⟨rfl, hc6⟩
    have s6 := s5.old hc6
    have ef : g.prods[i].2.1.all (okS g.terms.length ms) = f g.prods[i] := by rw [← hf]
    rw [ef]
    refine SPL_intro (fun p2 => ?_) (fun p2 => ?_)
    · have y6 := s6.box 0 rfl
      have z6 := s6.box 2 rfl
      simp [boxAt] at y6 z6
      have x16 := s6.chg.at x1 id
      have x26 := s6.chg.at x2 id
      have x36 := s6.chg.at x3 id
      have s7 := s6.lit 47 3 1 #[.int .i64 g.prods[i].1, .slice Ar g.prods[i].2.1.length cr, .int .i64 g.prods[i].2.2] (by simp [maxLen]) rfl
      have z7 := s7.box 2 rfl
      simp [boxAt] at z7
      unfold ref06_read.b45_1
      simp -dsimp [go_sem, y6, z6, p1, x16, x26, x36, z7]
      clear s7 y6 z6 z7 x16 x26 x36
      refine s6.append1d 3 rfl uProds iProd rfl (by decide) (news := [.int .i64 g.prods[i].1, .slice Ar g.prods[i].2.1.length cr, .int .i64 g.prods[i].2.2]) rfl (by simp [Value.oneCell']) (by unfold maxLen; omega) (by unfold maxBytes; omega) ?_
      intro gb cap w8 s8
      have z8 := s8.box 2 rfl
      simp [boxAt] at z8
      have s9 := s8.set 2 rfl 4 (.slice (some ⟨gb, 0, none⟩) (nu + 1) cap)
      simp -dsimp [go_sem, z8]
      refine hgo _ (some ⟨gb, 0, none⟩) (nu + 1) cap (E ++ [(g.prods[i], .slice Ar g.prods[i].2.1.length cr)]) ?_ (by simp [hEl]) (fun e he => ?_) ?_
      · rw [et, List.filter_append, List.map_append, hE]
        simp [p2]
      · rcases List.mem_append.1 he with he | he
        · exact hEr e he
        · simp at he; subst he
          exact ⟨hr, z1, z2⟩
      · have eE : (E ++ [(g.prods[i], Value.slice Ar g.prods[i].2.1.length cr)]).flatMap cPr = E.flatMap cPr ++ [.int .i64 g.prods[i].1, .slice Ar g.prods[i].2.1.length cr, .int .i64 g.prods[i].2.2] := by simp [cPr]
        show St noB w _ [_, _, _, rowC 47 3 _ _ _ ((E ++ [(g.prods[i], Value.slice Ar g.prods[i].2.1.length cr)]).flatMap cPr)]
        rw [eE]
        exact s9
    · refine hgo _ Au nu cu E ?_ hEl hEr s6
      rw [et, List.filter_append, hE]
      simp [p2]
  · have hie : i = g.prods.length := by omega
    subst hie
    rw [List.take_length] at hE
    obtain ⟨P, hPe⟩ : ∃ P, g.prods.filter f = P := ⟨_, rfl⟩
    have hPn : P.length = nu := by rw [← hPe, ← hE, List.length_map, hEl]
    subst hPn
    have hP : (rSlice rPr).at1 w4 w4.heap.size (.slice Au P.length cu) P := by
      obtain ⟨Fp, op, _⟩ := s4.get (k := 3) rfl
      refine row_reads op (fun _ _ => rfl) (by decide) hEl rfl (fun j x y hx hy => ?_) (Nat.le_refl _)
      have hy' : (E.map (·.1))[j]? = some y := by rw [hE, hPe]; exact hy
      rw [List.getElem?_map, hx] at hy'
      injection hy' with hy'
      obtain ⟨h1, h2, h3⟩ := hEr x (List.mem_of_getElem? hx)
      subst hy'
      exact ⟨[_], [_, _], rfl, ⟨rfl, h2⟩, [_], [_], rfl, Rep.up (Rep.below h1 (s4.chg.below hB fun _ _ => id)) (by have := s4.chg.size; omega), rfl, h3⟩
    have z4 := s4.box 2 rfl
    simp [boxAt] at z4
    have hq7 := z4.2.2
    have k2 := y4.1.2.2.2.1
    have k7 := z4.1.2.2.2.2
    have hPA : off P P.length ≤ 2000000 := by rw [← hPe]; exact Nat.le_trans (off_filter f _) hA
    have hder' : DerS g.terms.length P row [g.start] 0 row.length := by
      refine DerS.part (ok := fun s => okS g.terms.length ms s = true) (fun x hx => by unfold okS; rw [decide_eq_true hx]; rfl) (fun p hp h => hmc p hp (by rw [List.all_eq_true]; exact h)) (fun p hp h => ?_) hder
      rw [← hPe, List.mem_filter]
      refine ⟨hp, ?_⟩
      rw [← hf]
      exact List.all_eq_true.2 h
    have s5 := (St.refl noB w4).alloc #[.slice A1 g.terms.length c1, .slice A2 g.nons.length c2, .slice none 0 0, .int .i64 g.start, .slice Au P.length cu, .slice none 0 0, .slice none 0 0, .slice none 0 0, .int .i64 0] 135
    unfold ref06_read.b3
    simp -dsimp [go_sem, z4]
    have hrw4 : (rSlice rInt).at1 w4 w4.heap.size (.slice Aw row.length cw) row := Rep.up (Rep.below hrow (s4.chg.below hB fun _ _ => id)) (by have := s4.chg.size; omega)
    have hst0 : (g.terms.length : Int) ≤ g.start := by have := hcl.prods.s0; omega
    exact read_base (M := row.length + 1) s5 hP (Nat.le_refl _) hrw4 k7 k2 hq7 rfl (by omega) hPA hder' hst0 fun w' at' h1 h2 => hR _ _ ⟨_, w4, _, _, _, P, at', rfl, s4.chg, hP, h2, h1, hder', hPA⟩
end Go.Proofs.Ytkacbjhiobnbfaa
