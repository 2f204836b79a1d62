/-
  The document's Derives.
-/
import Derived.Test.YtkacbjhiobnbfaaTd
namespace Go.Proofs.Ytkacbjhiobnbfaa
open Go.Px Go.Px.Scan Go.RowKit
set_option maxHeartbeats 1000000
set_option linter.unusedSimpArgs false
set_option linter.unusedVariables false
set_option maxRecDepth 100000
attribute [-go_sem] Builtin.append_ ref20_Derives.b1_1 ref20_Derives.b29 ref20_Derives.b30 ref20_Derives.b22 ref20_Derives.b3 ref20_Derives.b5 ref20_Derives.b11 ref20_Derives.b16 ref20_Derives.b21 ref20_Derives.b20 ref20_Derives.b27 ref20_Derives.b26

theorem refDerives_ct {w : World} {B : Nat} {vg nv vr : Value} {l : List Nd} {g : Gr} {row : List Int} {root : Int} (hg : rGram.atN w B vg g) (h : (rSlice rNd).at1 w B nv l) (hrow : (rSlice rInt).at1 w B vr row) (hB : B ≤ w.heap.size) (hN : l.length ≤ 3000000000000) (hr : inI64 root) :
    Ct Try.prog ref20_Derives.id #[vg, nv, .int .i64 root, vr] w fun v w' => v = .bool (deriveB g l root row) ∧ Chg noB w w' := by
  refine ref20_Derives.ct fun R hR => ?_
  have hR' : ∀ b w', deriveB g l root row = b → Chg noB w w' → R (.returned (.bool b)) w' := fun b w' h1 h2 => hR _ _ ⟨by rw [h1], h2⟩
  clear hR
  obtain ⟨A1, c1, A2, c2, A3, c3, A4, c4, rfl, h1, h2, h3, hst, h4, k1, k2, k3, k4⟩ := (rGram_open hg).ex
  obtain ⟨A6, c6, rfl, hr1, hr2, _⟩ := slice_form hrow
  obtain ⟨A, cn, rfl, hl1, hl2, _⟩ := slice_form h
  have s0 := (St.refl noB w).alloc #[.slice A1 g.terms.length c1, .slice A2 g.nons.length c2, .slice A3 g.levels.length c3, .int .i64 g.start, .slice A4 g.prods.length c4] 27
  unfold ref20_Derives.run
  simp -dsimp [go_sem]
  generalize w.heap.size = q at s0 ⊢
  generalize w.alloc (.cells #[.slice A1 g.terms.length c1, .slice A2 g.nons.length c2, .slice A3 g.levels.length c3, .int .i64 g.start, .slice A4 g.prods.length c4] 27) = w1 at s0 ⊢
  have bl : ∀ {w'}, Chg noB w w' → Below B w w' := fun hc => hc.below hB fun _ _ => id
  refine CALL_of (Walk_ct (rt := false) (Rep.below h (bl s0.chg)) (by have := s0.chg.size; omega) hN hr) ?_
  intro v w2 hp
  unfold ref20_Derives.b1_1
  have hbad : ∀ {x1 x3 x4 x9 : Value} w', deriveB g l root row = false → Chg noB w w' → ref20_Derives.b30 R x1 x3 x4 x9 (.bool true) w' := fun w' h1 h2 => by
    unfold ref20_Derives.b30
    simp -dsimp [go_sem]
    exact hR' _ _ h1 h2
  cases hw : walkP l false root with
  | none =>
    rw [hw] at hp
    obtain ⟨rfl, hc⟩ := hp
    simp -dsimp [go_sem]
    unfold ref20_Derives.b29
    simp -dsimp [go_sem]
    exact hbad _ (by unfold deriveB; rw [lookP_walk, hw]; simp) (s0.chg.trans hc).drew
  | some r =>
    rw [hw] at hp
    obtain ⟨a, c, rfl, s1⟩ := hp
    have s2 := s0.seq s1
    have hdr : deriveB g l root row = (closedB g && decide (0 ≤ root ∧ root < l.length ∧ (l.getD root.toNat zN).1 = g.start ∧ 0 ≤ (l.getD root.toNat zN).2.1) && decide (looks (deV g l row) 0 r = some row.length)) := by
      unfold deriveB; rw [lookP_walk, hw]; rfl
    have hrl := walkP_lt hw
    have hrn := nodup_len l.length r (walkP_nodup hw) hrl
    have hrok := walkP_ok hw
    obtain ⟨hr0, hr1'⟩ := walkP_root hw
    obtain ⟨q', rfl⟩ : ∃ q' : Nat, root = q' := ⟨root.toNat, by omega⟩
    have hql : q' < l.length := by omega
    have hroot : l.getD ((q' : Int)).toNat zN = l[q'] := by simp [hql]
    rw [hroot] at hdr
    have b0 := s2.box 0 rfl
    simp [boxAt] at b0
    have hrm := s2.rowSize 1 rfl
    simp -dsimp [go_sem]
    unfold ref20_Derives.b29
    simp -dsimp [go_sem, b0]
    have s3 := s2.old (Chg.refl noB _).drew
    refine CALL_of (refClosed_ct (rGram_below hg (bl s3.chg)) (by have := s3.chg.size; omega)) ?_
    rintro _ w4 ⟨rfl, hc4⟩
    have s4 := s3.old hc4
    cases hcl : closedB g with
    | false =>
      simp -dsimp [go_sem]
      exact hbad _ (by rw [hdr, hcl]; rfl) s4.chg
    | true =>
      have b4 := s4.box 0 rfl
      simp [boxAt] at b4
      obtain ⟨bp, op, vr, ep, hbp, x1, x2, _⟩ := nodes_at (Rep.below h (bl s4.chg)) hql
      subst ep
      simp -dsimp [go_sem, hql, x2]
      refine SPL_intro (fun p1 => ?_) (fun p1 => ?_) <;> simp at p1
      · exact hbad _ (by have : ¬ 0 ≤ l[q'].2.1 := by omega
                         rw [hdr]; simp [this]) s4.chg
      simp -dsimp [go_sem, hql, x1, b4]
      unfold ref20_Derives.b30
      refine SPL_intro (fun p2 => ?_) (fun p2 => ?_) <;> simp at p2
      · exact hR' _ _ (by rw [hdr]; simp [p2]) s4.chg
      have hdr : deriveB g l q' row = decide (looks (deV g l row) 0 r = some row.length) := by
        rw [hdr, hcl]; simp [p1, p2, hql]
      have hnone : ∀ w' k, looks (deV g l row) 0 (r.take k) = none → Chg noB w w' → R (.returned (.bool false)) w' := fun w' k h1 h2 => hR' _ _ (by rw [hdr, looks_cut h1]; rfl) h2
      unfold ref20_Derives.b3
      simp -dsimp [go_sem]
      refine ref20_Derives.l8_intro _ _ _ _ _ _ _ _ (fun y z w' => ∃ i s : Nat, z = .int .i64 i ∧ y = .int .i64 s ∧ i ≤ r.length ∧ s ≤ i ∧ looks (deV g l row) 0 (r.take i) = some s ∧ St noB w w' [boxC q 27 [.slice A1 g.terms.length c1, .slice A2 g.nons.length c2, .slice A3 g.levels.length c3, .int .i64 g.start, .slice A4 g.prods.length c4], rowC 3 1 a r.length c (natV r)]) (fun _ z _ => r.length - iv z) ⟨0, 0, rfl, rfl, by omega, by omega, rfl, s4⟩ ?_
      rintro _ _ w5 ⟨i, s, rfl, rfl, hi, hsi, hlk, s5⟩ C hC
      simp -dsimp [go_sem]
      refine SPL_intro (fun p3 => ?_) (fun p3 => ?_) <;> simp at p3
      · obtain ⟨gr, ea, ck, fk⟩ := s5.rowAt 1 rfl (j := i) (by rw [natV_len]; exact p3)
        subst ea
        rw [natV_get p3] at ck
        obtain ⟨n, hn⟩ : ∃ n, r[i] = n := ⟨_, rfl⟩
        have hnl : n < l.length := hn ▸ hrl _ (List.getElem_mem p3)
        have hok : okN n (l.getD n zN) := hrok n (hn ▸ List.getElem_mem p3)
        rw [hn] at ck
        have et : r.take (i + 1) = r.take i ++ [n] := by rw [List.take_succ_eq_append_getElem p3, hn]
        obtain ⟨bp', op', vr, ep, hbp', x1, x2, x3, x4, hkr, z1, z2, z3⟩ := nodes_at h hnl
        injection ep with ep; injection ep with e1 e2; subst e1 e2
        have hbpw : bp < w.heap.size := by omega
        have x1 := (s5.chg.cell (p := ⟨bp, op + n * 4, none⟩) hbpw id).trans x1
        have x2 := (s5.chg.cell (p := ⟨bp, op + n * 4 + 1, none⟩) hbpw id).trans x2
        have x3 := (s5.chg.cell (p := ⟨bp, op + n * 4 + 2, none⟩) hbpw id).trans x3
        have x4 := (s5.chg.cell (p := ⟨bp, op + n * 4 + 3, none⟩) hbpw id).trans x4
        obtain ⟨Ar, cr, rfl, hkl1, hkl2, _⟩ := slice_form hkr
        have hgd : l.getD n zN = l[n] := by simp [hnl]
        have wi : IntKind.i64.wrap ((i : Int) + 1) = (i : Int) + 1 := IntWalk.i64_in _ (by omega)
        have ws : IntKind.i64.wrap ((s : Int) + 1) = (s : Int) + 1 := IntWalk.i64_in _ (by omega)
        have hnx : looks (deV g l row) 0 (r.take (i + 1)) = (if (l.getD n zN).2.1 < 0 then (if leafP g row s (l.getD n zN) then some (s + 1) else none) else if joinP g l (l.getD n zN) then some s else none) := by rw [et, looks_snoc, hlk]; rfl
        rw [hgd] at hnx hok
        obtain ⟨x, hx⟩ : ∃ x, l[n] = x := ⟨_, rfl⟩
        rw [hx] at x1 x2 x3 x4 hkr z1 z2 z3 hnx hok hkl1
        obtain ⟨sy, pr, tk, ks⟩ := x
        simp only at x1 x2 x3 x4 hkr z1 z2 z3 hkl1
        have hx' : l[n].2.2.2 = ks := by rw [hx]
        have s6 := s5.alloc #[.int .i64 sy, .int .i64 pr, .int .i64 tk, .slice Ar ks.length cr] 61
        simp -dsimp [go_sem, p3, ck, hnl, x1, x2, x3, x4, hx']
        generalize w5.alloc (.cells #[.int .i64 sy, .int .i64 pr, .int .i64 tk, .slice Ar ks.length cr] 61) = w6 at s6 ⊢
        generalize w5.heap.size = nb at s6 ⊢
        have b6 := s6.box 0 rfl
        have n6 := s6.box 2 rfl
        simp [boxAt] at b6 n6
        unfold ref20_Derives.b22
        simp -dsimp [go_sem, n6]
        refine SPL_intro (fun p4 => ?_) (fun p4 => ?_) <;> simp at p4
        · rw [if_pos p4] at hnx
          have hlb : ∀ {x11 x12 : Value} w', ¬ leafP g row s (sy, pr, tk, ks) → Chg noB w w' → ref20_Derives.b27 R C x11 x12 (.bool true) w' := fun w' hb hc => by
            unfold ref20_Derives.b27
            simp -dsimp [go_sem]
            exact hnone _ (i + 1) (by rw [hnx, if_neg hb]) hc
          unfold ref20_Derives.b26
          simp -dsimp [go_sem, n6]
          refine SPL_intro (fun q1 => ?_) (fun q1 => ?_) <;> simp at q1
          · exact hlb _ (fun h => by have := h.1; simp at this; omega) s6.chg.drew
          simp -dsimp [go_sem, n6, b6]
          refine SPL_intro (fun q2 => ?_) (fun q2 => ?_) <;> simp at q2
          · exact hlb _ (fun h => by have := h.2.1; simp at this; omega) s6.chg.drew
          simp -dsimp [go_sem, n6, b6]
          refine SPL_intro (fun q3 => ?_) (fun q3 => ?_) <;> simp at q3
          · exact hlb _ (fun h => by have := h.2.2.1; omega) s6.chg.drew
          obtain ⟨br, or', e6, hbr, xr, _⟩ := Go.Px.ints_at (Rep.below hrow (bl s6.chg)) q3
          subst e6
          simp -dsimp [go_sem, n6, b6, q3, xr]
          refine SPL_intro (fun q4 => ?_) (fun q4 => ?_) <;> simp at q4
          · exact hlb _ (fun h => by have := h.2.2.2.1; simp [q3] at this; exact q4 this) s6.chg.drew
          simp -dsimp [go_sem, n6, b6]
          unfold ref20_Derives.b27
          refine SPL_intro (fun q5 => ?_) (fun q5 => ?_) <;> simp at q5
          · exact hnone _ (i + 1) (by rw [hnx, if_neg]; intro h; exact q5 h.2.2.2.2) s6.chg.drew
          have hleaf : leafP g row s (sy, pr, tk, ks) := ⟨by show 0 < sy; omega, by show sy < _; omega, q3, by simp [q3, q4], q5⟩
          rw [if_pos hleaf] at hnx
          simp -dsimp [go_sem, ws]
          unfold ref20_Derives.b11
          simp -dsimp [go_sem, wi]
          exact hC _ _ _ ⟨i + 1, s + 1, by simp, by simp, by omega, by omega, hnx, (s6.take 2).old (Chg.refl noB _).drew⟩ (by simp [iv]; omega)
        · rw [if_neg (by show ¬ pr < 0; omega)] at hnx
          have hjb : ∀ {x1 x4 x11 x12 x13 : Value} w', ¬ joinP g l (sy, pr, tk, ks) → Chg noB w w' → ref20_Derives.b21 R C x1 x4 x11 x12 x13 (.bool true) w' := fun w' hb hc => by
            unfold ref20_Derives.b21
            simp -dsimp [go_sem]
            exact hnone _ (i + 1) (by rw [hnx, if_neg hb]) hc
          unfold ref20_Derives.b28 ref20_Derives.b20
          simp -dsimp [go_sem, n6, b6]
          refine SPL_intro (fun q1 => ?_) (fun q1 => ?_) <;> simp at q1
          · exact hjb _ (fun h => by have := h.1; simp at this; omega) s6.chg.drew
          obtain ⟨j, rfl⟩ : ∃ j : Nat, pr = j := ⟨pr.toNat, by omega⟩
          have hj : j < g.prods.length := by omega
          obtain ⟨pb, po, vp, ep, hpb, y1, y2, y3, hpr, _⟩ := prods_at h4 hj
          subst ep
          have hpbw : pb < w.heap.size := by omega
          have y1 := (s6.chg.cell (p := ⟨pb, po + j * 3, none⟩) hpbw id).trans y1
          have y2 := (s6.chg.cell (p := ⟨pb, po + j * 3 + 1, none⟩) hpbw id).trans y2
          obtain ⟨Ap, cp, rfl, hpl1, hpl2, _⟩ := slice_form hpr
          have hjoin : joinP g l ((sy, (j : Int), tk, ks) : Nd) ↔ g.prods[j].1 = sy ∧ eqF (fun s k => decide (0 ≤ k ∧ k < l.length ∧ (l.getD k.toNat zN).1 = s)) g.prods[j].2.1 ks = true := by
            unfold joinP
            simp [hj]
          obtain ⟨rt, hrt⟩ : ∃ rt, g.prods[j].2.1 = rt := ⟨_, rfl⟩
          rw [hrt] at hpr hpl1 hjoin
          simp -dsimp [go_sem, n6, b6, hj, y1]
          refine SPL_intro (fun q2 => ?_) (fun q2 => ?_) <;> simp at q2
          · exact hjb _ (fun h => q2 (hjoin.1 h).1) s6.chg.drew
          simp -dsimp [go_sem, n6, b6, hj, y2, hrt]
          unfold ref20_Derives.b21
          refine SPL_intro (fun q3 => ?_) (fun q3 => ?_) <;> simp at q3
          · exact hnone _ (i + 1) (by rw [hnx, if_neg]; intro h; have := (hjoin.1 h).2; unfold eqF at this; simp at this; omega) s6.chg.drew
          have q3 : rt.length = ks.length := by omega
          unfold ref20_Derives.b16
          have hcell : ∀ w', Chg noB w6 w' → Chg noB w w' := fun w' hc => s6.chg.trans hc
          refine ref20_Derives.l18_intro _ _ _ _ _ _ _ _ _ (fun y w' => ∃ k : Nat, y = .int .i64 k ∧ k ≤ ks.length ∧ (∀ (m : Nat) (h1 : m < rt.length) (h2 : m < ks.length), m < k → (l.getD ks[m].toNat zN).1 = rt[m]) ∧ Chg noB w6 w') (fun y _ => ks.length - iv y) ⟨0, rfl, by omega, fun m _ _ h => by omega, (Chg.refl noB w6).drew⟩ ?_
          rintro _ w7 ⟨k, rfl, hk, hall, hc7⟩ C2 hC2
          have s7 := s6.old hc7
          have b7 := s7.box 0 rfl
          have n7 := s7.box 2 rfl
          simp [boxAt] at b7 n7
          simp -dsimp [go_sem, n7]
          refine SPL_intro (fun p5 => ?_) (fun p5 => ?_) <;> simp at p5
          · have hkr' : k < rt.length := by omega
            obtain ⟨g1, o1, rfl, _, ka, kin⟩ := Go.Px.ints_at (Rep.below hkr (bl s7.chg)) p5
            obtain ⟨g2, o2, rfl, _, kb, kin2⟩ := Go.Px.ints_at (Rep.below hpr (bl s7.chg)) hkr'
            have hko : 0 ≤ ks[k] ∧ ks[k] < n := by
              rcases hok.2 with h | h
              · have h3 : ks = [] := h.2.2
                subst h3; simp at p5
              · exact h.2.2 _ (List.getElem_mem p5)
            obtain ⟨d, hd⟩ : ∃ d : Nat, ks[k] = d := ⟨ks[k].toNat, by omega⟩
            have hdl : d < l.length := by omega
            rw [hd] at ka
            obtain ⟨bp', op', vr, ep, hbp', u1, _⟩ := nodes_at (Rep.below h (bl s7.chg)) hdl
            injection ep with ep; injection ep with e1 e2; subst e1 e2
            have y1' := (hc7.cell (p := ⟨pb, po + j * 3, none⟩) (by have := s6.chg.size; show pb < _; omega) id).trans y1
            have y2' := (hc7.cell (p := ⟨pb, po + j * 3 + 1, none⟩) (by have := s6.chg.size; show pb < _; omega) id).trans y2
            have wk : IntKind.i64.wrap ((k : Int) + 1) = (k : Int) + 1 := IntWalk.i64_in _ (by unfold maxLen at hkl2; omega)
            have hdg : (l.getD ks[k].toNat zN).1 = l[d].1 := by rw [hd]; simp [hdl]
            simp -dsimp [go_sem, n7, b7, hj, y2', hrt, kb, hkr', p5, ka, hdl, u1]
            refine SPL_intro (fun q5 => ?_) (fun q5 => ?_) <;> simp at q5
            · refine hnone _ (i + 1) (by
                rw [hnx, if_neg]; intro h
                have h3 := (hjoin.1 h).2
                rw [eqF_false (i := k) hkr' p5] at h3
                · cases h3
                · rw [decide_eq_false]; rw [hdg]; rintro ⟨_, _, h4⟩; exact q5 h4.symm) s7.chg.drew
            · simp -dsimp [go_sem, wk]
              refine hC2 _ _ ⟨k + 1, by simp, by omega, fun m h1 h2 hm => ?_, hc7.drew⟩ (by simp [iv]; omega)
              by_cases e : m = k
              · subst e; rw [hdg]; exact q5.symm
              · exact hall m h1 h2 (by omega)
          · have hkk : k = ks.length := by omega
            subst hkk
            have hjn : joinP g l ((sy, (j : Int), tk, ks) : Nd) := hjoin.2 ⟨q2, eqF_true q3 fun m h1 h2 => by
              have h3 : 0 ≤ ks[m] ∧ ks[m] < n := by
                rcases hok.2 with h | h
                · have h3 : ks = [] := h.2.2
                  subst h3; simp at h2
                · exact h.2.2 _ (List.getElem_mem h2)
              rw [decide_eq_true]
              exact ⟨h3.1, by omega, hall m h1 h2 h2⟩⟩
            rw [if_pos hjn] at hnx
            unfold ref20_Derives.b11
            simp -dsimp [go_sem, wi]
            exact hC _ _ _ ⟨i + 1, s, by simp, rfl, by omega, by omega, hnx, s7.take 2⟩ (by simp [iv]; omega)
      · have hir : i = r.length := by omega
        subst hir
        rw [List.take_length] at hlk
        unfold ref20_Derives.b5
        simp -dsimp [go_sem]
        refine hR' _ _ ?_ s5.chg
        rw [hdr, hlk, Bool.eq_iff_iff]
        simp; omega
end Go.Proofs.Ytkacbjhiobnbfaa

