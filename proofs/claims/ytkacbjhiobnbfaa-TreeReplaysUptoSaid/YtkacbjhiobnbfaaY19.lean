/-
  Texts of this claim: Ld4, Ld5, Rt2, Ld6, Rt3, Rt3b, Rt4, Ld1.
-/
import Derived.Test.YtkacbjhiobnbfaaY17
import Derived.Test.YtkacbjhiobnbfaaY18
import Derived.ArgAppend
import Derived.Test.YtkacbjhiobnbfaaY12
import Derived.Test.YtkacbjhiobnbfaaY15
import Derived.Test.YtkacbjhiobnbfaaY14
/-
  TreeReplays: the replay.
-/
namespace Go.Px.Scan
open Go.Px Go.RowKit Go.Proofs.Ytkacbjhiobnbfaa
section
variable {g : Gr} {l : List Nd} {row : List Int}
theorem unF_len : ∀ {F : Fo} {ws : List Nat}, unF l ws F → ws.length ≤ F.pre.length
  | .nil, ws, h => by have h : ws = [] := h; subst h; simp
  | .node n k r, ws, h => by
    obtain ⟨ws, rfl, h1, h2⟩ := h
    have := unF_len h2
    have e : (Fo.node n k r).pre = n :: (k.pre ++ r.pre) := rfl
    rw [e]
    simp; omega
theorem leaf_prods : ∀ s : List Nat, s.length = (leavesOf l s).length + (prodsOf l s).length
  | [] => rfl
  | n :: s => by
    have := leaf_prods s
    by_cases hp : prodN l n < 0
    · rw [leavesOf_leaf hp, prodsOf_leaf hp, List.length_cons, List.length_cons]; omega
    · rw [leavesOf_join (Int.not_lt.1 hp), prodsOf_join (Int.not_lt.1 hp), List.length_cons, List.length_cons]; omega
theorem Rp.len {rs now : List Int} {done : Nat} (h : Rp g l row rs now done) : now.length ≤ row.length + rs.length := by
  obtain ⟨ws, F, h1, h2, h3, h4, h5, h6⟩ := h
  have e1 := unF_len h1
  have e2 := leaf_prods (l := l) F.pre
  have e3 : (prodsOf l F.preR).length = (prodsOf l F.pre).length := by
    unfold prodsOf
    rw [List.length_map, List.length_map]
    exact (F.perm.filter _).length_eq
  have e4 := congrArg List.length h5
  rw [List.length_take] at e4
  rw [h2, List.length_map, h4]
  omega
end
/-- A row that is only read from here on, with an address of its own. -/
def NowR (w : World) (v : Value) (now : List Int) : Prop := ∃ b c, v = .slice (some ⟨b, 0, none⟩) now.length c ∧ now.length ≤ c ∧ c ≤ maxLen ∧ b < w.heap.size ∧ ∀ i x, now[i]? = some x → w.cell? ⟨b, i, none⟩ = some (.int .i64 x) ∧ inI64 x
theorem NowR.keep {w w' : World} {v : Value} {now : List Int} (h : NowR w v now) (hc : Chg noB w w') : NowR w' v now := by
  obtain ⟨b, c, e, h1, h2, h3, h4⟩ := h
  exact ⟨b, c, e, h1, h2, by have := hc.size; omega, fun i x hi => ⟨hc.at (h4 i x hi).1 id, (h4 i x hi).2⟩⟩
theorem NowR.at1 {w : World} {v : Value} {now : List Int} (h : NowR w v now) : (rSlice rInt).at1 w w.heap.size v now := by
  obtain ⟨b, c, rfl, h1, h2, h3, h4⟩ := h
  refine ⟨_, c, rfl, h1, h2, trivial, fun _ => ⟨b, 0, rfl, h3, fun i x hi => ⟨[.int .i64 x], ⟨rfl, (h4 i x hi).2⟩, fun j u hj => ?_⟩⟩⟩
  match j, hj with
  | 0, hj => injection hj with hj; subst hj; simpa [rInt] using (h4 i x hi).1
  | j + 1, hj => simp at hj
theorem NowR.pop {w : World} {b n c : Nat} {now : List Int} {x : Int} (h : NowR w (.slice (some ⟨b, 0, none⟩) n c) (now ++ [x])) : n = now.length + 1 ∧ now.length + 1 ≤ c ∧ c ≤ maxLen ∧ w.cell? ⟨b, now.length, none⟩ = some (.int .i64 x) ∧ inI64 x ∧ ∀ c', now.length ≤ c' → c' ≤ maxLen → NowR w (.slice (some ⟨b, 0, none⟩) now.length c') now := by
  obtain ⟨b', c', e, h1, h2, h3, h4⟩ := h
  injection e with e1 e2 e3
  injection e1 with e1; injection e1 with e1
  subst e1 e3
  simp at e2 h1
  have hx := h4 now.length x (by simp)
  exact ⟨e2, h1, h2, hx.1, hx.2, fun c' a1 a2 => ⟨b, c', rfl, a1, a2, h3, fun i y hi => h4 i y (by rw [List.getElem?_append_left (List.getElem?_eq_some_iff.1 hi).1]; exact hi)⟩⟩
theorem info_parts3 {o : Option TypeInfo} {z : Option Value} {s b : Nat} (h : o.map (fun i => (i.zero, i.size, i.bytes)) = some (z, s, b)) : ∃ i, o = some i ∧ i.zero = z ∧ i.size = s ∧ i.bytes = b := by
  cases o with
  | none => cases h
  | some i => simp at h; exact ⟨i, rfl, h⟩
end Go.Px.Scan
namespace Go.Proofs.Ytkacbjhiobnbfaa
open Go.Px Go.Px.Scan Go.RowKit
set_option maxHeartbeats 1000000
set_option linter.unusedSimpArgs false
set_option linter.unusedVariables false
set_option maxRecDepth 100000
theorem now_app {X : Pan} {K : Value → World → Prop} {w : World} {b n m cr B : Nat} {ty : TypeId} {now r : List Int} {Ar : Option Addr} (h : NowR w (.slice (some ⟨b, 0, none⟩) n n) now) (hr : (rSlice rInt).at1 w B (.slice Ar m cr) r) (hB : B ≤ w.heap.size) (hs : now.length + r.length ≤ 100000000)
    (hK : ∀ v' w', Chg noB w w' → NowR w' v' (now ++ r) → K v' w') : RES X ((Builtin.append_ #[24, 24] ty #[.slice (some ⟨b, 0, none⟩) n n, .slice Ar m cr]).run Try.prog w) K := by
  obtain ⟨i0, hi, hz, hz1, hz2⟩ := info_parts3 iInt
  obtain ⟨b', c', e, h1, h2, h3, h4⟩ := h
  injection e with e1 e2 e3
  injection e1 with e1; injection e1 with e1
  subst e1 e2 e3
  obtain ⟨A', c1, e, g1, g2, _, g4⟩ := hr
  injection e with e
  injection e with e1 e2 e3
  subst e1 e2 e3
  rcases Nat.eq_zero_or_pos r.length with h0 | h0
  · have hr0 := List.eq_nil_of_length_eq_zero h0
    subst hr0
    have hrun : (Builtin.append_ #[24, 24] ty #[.slice (some ⟨b, 0, none⟩) now.length now.length, .slice Ar ([] : List Int).length cr]).run Try.prog w = .ok (.slice (some ⟨b, 0, none⟩) now.length now.length) w := by
      cases Ar with
      | none => simp [Builtin.append_, run_underlying uInts, sizeOf, typeInfo, hi, Builtin.lenOf, Builtin.firstCells, storeCells]
      | some a =>
        have := run_append_room_cells (P := Try.prog) w 24 ty 3 i0 uInts hi b 0 now.length now.length a 0 cr [] (by simp) (by simp) (by simp) (by omega) (by simp) (by simp)
        have e0 : w.setCells b (0 + now.length * i0.size) [] = w := rfl
        rw [e0] at this
        simpa using this
    rw [hrun, RES_ok]
    exact hK _ _ (Chg.refl _ _) ⟨b, now.length, by simp, by simp, by simpa using h2, h3, by simpa using h4⟩
  · obtain ⟨b2, o2, rfl, hb2, hc2⟩ := g4 h0
    have hnews : ∀ j u, (r.map (Value.int .i64 ·))[j]? = some u → w.cell? ((⟨b2, o2, none⟩ : Addr).add j) = some u := fun j u hj => by
      rw [List.getElem?_map] at hj
      cases hx : r[j]? with
      | none => rw [hx] at hj; cases hj
      | some x =>
        rw [hx] at hj; injection hj with hj; subst hj
        obtain ⟨ys, ⟨rfl, _⟩, hc⟩ := hc2 j x hx
        have := hc 0 _ rfl
        rw [Addr.add_lit]
        simpa [rInt] using this
    have holds : ∀ j u, (now.map (Value.int .i64 ·))[j]? = some u → w.cell? ((⟨b, 0, none⟩ : Addr).add j) = some u := fun j u hj => by
      rw [List.getElem?_map] at hj
      cases hx : now[j]? with
      | none => rw [hx] at hj; cases hj
      | some x =>
        rw [hx] at hj; injection hj with hj; subst hj
        rw [Addr.add_lit, Nat.zero_add]
        exact (h4 j x hx).1
    obtain ⟨v', w', hrun, hown, hgr⟩ := run_append_arg_grows (P := Try.prog) w 24 ty 3 i0 _ 1 8 uInts hi hz hz1 hz2 rfl (by decide) ⟨b, 0, none⟩ now.length now.length (now.map (Value.int .i64 ·)) (by simp) holds ⟨b2, o2, none⟩ r.length cr (r.map (Value.int .i64 ·)) (by simp) hnews (by omega) (by unfold maxLen; omega) (by omega)
    rw [hrun, RES_ok]
    have hc : Chg noB w w' := ⟨hgr.os, hgr.tape, hgr.output, hgr.size, fun j hj _ => hgr.block j hj (by simp)⟩
    have s1 : ∃ a cap, v' = .slice a (now.length + r.length) cap := by
      rcases hown.2 with ⟨h1, h2⟩ | ⟨g, cap, cur, h1, _⟩
      · exact ⟨none, 0, by rw [h1, h2]⟩
      · exact ⟨_, cap, h1⟩
    obtain ⟨a, cap, rfl⟩ := s1
    have s2 := St.ofRow hown hc
    refine hK _ _ hc ?_
    obtain ⟨_, hcap, hcm⟩ := s2.rowSize 0 rfl
    have hall : ∀ i x, (now ++ r)[i]? = some x → ∃ g, a = some ⟨g, 0, none⟩ ∧ w'.cell? ⟨g, i, none⟩ = some (.int .i64 x) ∧ g < w'.heap.size := fun i x hx => by
      have hil := (List.getElem?_eq_some_iff.1 hx).1
      obtain ⟨F, ho, _⟩ := s2.get (k := 0) rfl
      obtain ⟨g, e1, e2, _, e3, e4⟩ := row_at ho (j := i) (by simpa using hil)
      refine ⟨g, e1, ?_, e4⟩
      rw [e2, ← List.getElem?_eq_getElem, ← List.map_append, List.getElem?_map, hx]
      rfl
    have hne : 0 < (now ++ r).length := by simp; omega
    obtain ⟨g, rfl, _, hg⟩ := hall 0 _ (List.getElem?_eq_getElem hne)
    refine ⟨g, cap, by simp, by simpa using hcap, hcm, hg, fun i x hx => ⟨?_, ?_⟩⟩
    · obtain ⟨g', e1, e2, _⟩ := hall i x hx
      injection e1 with e1; injection e1 with e1; subst e1
      exact e2
    · have := List.mem_of_getElem? hx
      rcases List.mem_append.1 this with hm | hm
      · obtain ⟨j, hj⟩ := List.mem_iff_getElem?.1 hm
        exact (h4 j x hj).2
      · obtain ⟨j, hj⟩ := List.mem_iff_getElem?.1 hm
        obtain ⟨ys, ⟨_, hx⟩, _⟩ := hc2 j x hj
        exact hx
end Go.Proofs.Ytkacbjhiobnbfaa

/-
  TreeReplays: the replay's loops.
-/
namespace Go.Proofs.Ytkacbjhiobnbfaa
open Go.Px Go.Px.Scan Go.RowKit
set_option maxHeartbeats 1000000
set_option linter.unusedSimpArgs false
set_option linter.unusedVariables false
set_option maxRecDepth 100000
attribute [-go_sem] Builtin.append_ law20_TreeReplays.b28 law20_TreeReplays.b37 law20_TreeReplays.b41 law20_TreeReplays.b42 law20_TreeReplays.b42_1 law20_TreeReplays.b42_2 law20_TreeReplays.b42_3 law20_TreeReplays.b43 law20_TreeReplays.b49 law20_TreeReplays.b50 law20_TreeReplays.b50_1 law20_TreeReplays.b51 law20_TreeReplays.b52 law20_TreeReplays.b52_1 law20_TreeReplays.b53 law20_TreeReplays.b30 law20_TreeReplays.b30_1 law20_TreeReplays.b31 law20_TreeReplays.b32 law20_TreeReplays.b35
def slenV : Value → Nat | .slice _ n _ => n | _ => 0
/-- What the replay works with. -/
structure RpE (W : World) (q : Nat) (g : Gr) (A1 A4 : Option Addr) (c1 c4 : Nat) (row rs : List Int) (Aw Ax : Option Addr) (cw cx : Nat) : Prop where
  k0 : W.cell? ⟨q, 0, none⟩ = some (.slice A1 g.terms.length c1)
  k4 : W.cell? ⟨q, 4, none⟩ = some (.slice A4 g.prods.length c4)
  pr : (rSlice rPr).at1 W W.heap.size (.slice A4 g.prods.length c4) g.prods
  rRow : (rSlice rInt).at1 W W.heap.size (.slice Aw row.length cw) row
  rRs : (rSlice rInt).at1 W W.heap.size (.slice Ax rs.length cx) rs
  left : ∀ p ∈ g.prods, (g.terms.length : Int) ≤ p.1
  rowl : row.length ≤ 2000000
  rsl : rs.length ≤ 2000000
  prl : ∀ p ∈ g.prods, p.2.1.length ≤ 2000000
section
variable {W : World} {q : Nat} {g : Gr} {A1 A4 Aw Ax : Option Addr} {c1 c4 cw cx : Nat} {row rs : List Int} {l : List Nd}
theorem play_step (E : RpE W q g A1 A4 c1 c4 row rs Aw Ax cw cx) {R : Ending → World → Prop} {C34 : Value → Value → Value → World → Prop} {w : World} {i done : Nat} {v : Value} {now rest : List Int} {r : Int}
    (hi : rs[i]? = some r) (hRp : Rp g l row (r :: rest) now done) (hnow : NowR w v now) (hc : Chg noB W w) (hlast : ∀ a x, now = a ++ [x] → (g.terms.length : Int) ≤ x) (hrest : rest.length ≤ 2000000)
    (hgo : ∀ w' v' now', Chg noB W w' → NowR w' v' now' → Rp g l row rest now' done → law20_TreeReplays.b37 R C34 (.int .i64 done) v' (.int .i64 i) w') :
    law20_TreeReplays.b42 R C34 (.pointer (some ⟨q, 0, none⟩)) (.slice Ax rs.length cx) (.int .i64 done) v (.int .i64 i) w := by
  have hne : now ≠ [] := by rintro rfl; exact hRp.nil
  obtain ⟨a, x, rfl⟩ := snoc_of now hne
  obtain ⟨p, hr0, hpg, hpx, hRp2⟩ := hRp.step (hlast a x rfl)
  obtain ⟨b, c, rfl, _⟩ := id hnow
  obtain ⟨e1, e2, e3, e4, e5, e6⟩ := hnow.pop
  have hlen := hRp.len
  have hlen2 := E.rowl
  simp only [List.length_append, List.length_singleton, List.length_cons] at hlen e1 e2
  obtain ⟨j, hj⟩ : ∃ j : Nat, r = j := ⟨r.toNat, by omega⟩
  subst hj
  rw [Int.toNat_natCast] at hpg
  have hil := (List.getElem?_eq_some_iff.1 hi).1
  have hjl := (List.getElem?_eq_some_iff.1 hpg).1
  have hbl : Below W.heap.size W w := hc.below (Nat.le_refl _) fun _ _ => id
  obtain ⟨bx, ox, eAx, hbx, cx1, hxin⟩ := Go.Px.ints_at (Rep.below E.rRs hbl) hil
  have hix : rs[i] = (j : Int) := (List.getElem?_eq_some_iff.1 hi).2
  rw [hix] at cx1
  subst eAx
  obtain ⟨bp, op, vr, eA, hbp, x1, x2, x3, hrr, _⟩ := prods_at (Rep.below E.pr hbl) hjl
  subst eA
  have hpe : g.prods[j] = p := (List.getElem?_eq_some_iff.1 hpg).2
  rw [hpe] at x1 hrr
  obtain ⟨Ar, cr, rfl, hrl, hrm, _⟩ := slice_form hrr
  have k4 := hc.at E.k4 id
  have hpl := E.prl p (List.mem_of_getElem? hpg)
  have hal : ((a.length : Int) + 1 == 0) = false := by
    rw [beq_eq_false_iff_ne]; omega
  have ws : IntKind.i64.wrap ((a.length : Int) + 1 - 1) = (a.length : Int) := by rw [IntWalk.i64_in _ (by omega)]; omega
  have ws' : IntKind.i64.wrap (a.length : Int) = (a.length : Int) := IntWalk.i64_in _ (by omega)
  have hj0 : ¬ ((j : Int) < 0) := by omega
  have hjg : ¬ ((g.prods.length : Int) ≤ (j : Int)) := by omega
  subst hpx
  have hc1 : Chg noB w w.drew := (Chg.refl _ _).drew
  simp only [List.length_append, List.length_singleton] at *
  have hlt : (a.length : Int) < (a.length : Int) + 1 := by omega
  have hbe : (p.1 != p.1) = false := by simp
  unfold law20_TreeReplays.b42
  simp -dsimp [go_sem, hal]
  unfold law20_TreeReplays.b42_3
  simp -dsimp [go_sem, hil, cx1, hj0]
  unfold law20_TreeReplays.b42_2
  simp -dsimp [go_sem, hil, cx1, k4, hjg]
  unfold law20_TreeReplays.b42_1
  simp -dsimp [go_sem, hil, cx1, k4, hjl, x1, ws, ws', e4, hlt, hbe]
  unfold law20_TreeReplays.b43
  simp -dsimp [go_sem]
  unfold law20_TreeReplays.b41
  have hac : a.length ≤ c := by omega
  simp -dsimp [go_sem, hil, cx1, k4, hjl, x2, ws, ws', hac]
  have hdd : Chg noB w w.drew.drew := (Chg.refl _ _).drew.drew
  have hsz := hc.size
  refine now_app ((e6 a.length (Nat.le_refl _) (by omega)).keep hdd) (Rep.below hrr (hdd.below hsz fun _ _ => id)) (by have := hdd.size; omega) (by omega) fun v' w' hc' hn' => ?_
  exact hgo w' v' _ ((hc.trans hdd).trans hc') hn' hRp2
theorem strip_loop (E : RpE W q g A1 A4 c1 c4 row rs Aw Ax cw cx) {R : Ending → World → Prop} {C34 : Value → Value → Value → World → Prop} {w : World} {i done : Nat} {v : Value} {now rest : List Int} {r : Int}
    (hi : rs[i]? = some r) (hRp : Rp g l row (r :: rest) now done) (hnow : NowR w v now) (hc : Chg noB W w) (hrest : rest.length ≤ 2000000)
    (hgo : ∀ w' v' now' done', Chg noB W w' → NowR w' v' now' → Rp g l row rest now' done' → law20_TreeReplays.b37 R C34 (.int .i64 done') v' (.int .i64 i) w') :
    law20_TreeReplays.l45 R C34 (.slice Aw row.length cw) (.pointer (some ⟨q, 0, none⟩)) (.slice Ax rs.length cx) (.int .i64 done) v (.int .i64 i) w := by
  refine law20_TreeReplays.l45_intro _ _ _ _ _ _ _ _ _ (fun y z w' => ∃ (done : Nat) (now : List Int), y = .int .i64 done ∧ Rp g l row (r :: rest) now done ∧ NowR w' z now ∧ Chg noB W w') (fun _ z _ => slenV z) ⟨done, now, rfl, hRp, hnow, hc⟩ ?_
  rintro _ v1 w1 ⟨done1, now1, rfl, hRp1, hnow1, hc1⟩ C hC
  have hne : now1 ≠ [] := by rintro rfl; exact hRp1.nil
  obtain ⟨a, x, rfl⟩ := snoc_of now1 hne
  obtain ⟨b, c, rfl, _⟩ := id hnow1
  obtain ⟨e1, e2, e3, e4, e5, e6⟩ := hnow1.pop
  have hlen := hRp1.len
  have hlen2 := E.rowl
  simp only [List.length_append, List.length_singleton, List.length_cons] at hlen e1 e2
  have ws : IntKind.i64.wrap ((a.length : Int) + 1 - 1) = (a.length : Int) := by rw [IntWalk.i64_in _ (by omega)]; omega
  have ws' : IntKind.i64.wrap (a.length : Int) = (a.length : Int) := IntWalk.i64_in _ (by omega)
  have hlt : (a.length : Int) < (a.length : Int) + 1 := by omega
  have hpos : (0 : Int) < (a.length : Int) + 1 := by omega
  have k0 := hc1.at E.k0 id
  have hdd : Chg noB w1 w1.drew := (Chg.refl _ _).drew
  unfold law20_TreeReplays.b52
  simp -dsimp [go_sem, hpos]
  unfold law20_TreeReplays.b52_1
  simp -dsimp [go_sem, hpos, ws, ws', e4, hlt, k0]
  unfold law20_TreeReplays.b53
  refine SPL_intro (fun p1 => ?_) (fun p1 => ?_) <;> simp at p1
  · obtain ⟨h1, h2, h3⟩ := hRp1.strip E.left p1
    have hbl : Below W.heap.size W w1 := hc1.below (Nat.le_refl _) fun _ _ => id
    obtain ⟨hj, hje⟩ := List.getElem?_eq_some_iff.1 h2
    obtain ⟨bw, ow, eAw, hbw, cxw, hxw⟩ := Go.Px.ints_at (Rep.below E.rRow hbl) hj
    subst eAw
    rw [hje] at cxw
    have wz : IntKind.i64.wrap ((row.length : Int) - 1 - (done1 : Int)) = ((row.length - 1 - done1 : Nat) : Int) := by rw [IntWalk.i64_in _ (by omega)]; omega
    have wz' : IntKind.i64.wrap ((row.length : Int) - 1) = ((row.length - 1 : Nat) : Int) := by rw [IntWalk.i64_in _ (by omega)]; omega
    have wz2 : IntKind.i64.wrap (((row.length - 1 : Nat) : Int) - (done1 : Int)) = ((row.length - 1 - done1 : Nat) : Int) := by rw [IntWalk.i64_in _ (by omega)]; omega
    have wd : IntKind.i64.wrap ((done1 : Int) + 1) = (done1 : Int) + 1 := IntWalk.i64_in _ (by omega)
    have hge : ¬ ((row.length : Int) ≤ (done1 : Int)) := by omega
    have hbe : (x != x) = false := by simp
    have hac : a.length ≤ c := by omega
    unfold law20_TreeReplays.b50
    simp -dsimp [go_sem, hge]
    unfold law20_TreeReplays.b50_1
    simp -dsimp [go_sem, wz, wz', wz2, hj, cxw, ws, ws', e4, hlt, hbe]
    unfold law20_TreeReplays.b51
    simp -dsimp [go_sem]
    unfold law20_TreeReplays.b49
    simp -dsimp [go_sem, wd, ws, ws', hac]
    have hd2 : Chg noB w1 w1.drew.drew := (Chg.refl _ _).drew.drew
    refine hC _ _ _ ⟨done1 + 1, a, by simp, h3, ?_, hc1.trans hd2⟩ (by simp [slenV])
    exact (e6 c hac e3).keep hd2
  · refine play_step E hi hRp1 (by have := hnow1.keep hdd; simp only [List.length_append, List.length_singleton] at this; exact this) (hc1.trans hdd) (fun a' x' e => ?_) hrest fun w' v' now' h1 h2 h3 => hgo w' v' now' _ h1 h2 h3
    obtain ⟨_, e⟩ := List.append_inj' e rfl
    injection e with e
    subst e
    exact p1
theorem replay (E : RpE W q g A1 A4 c1 c4 row rs Aw Ax cw cx) {R : Ending → World → Prop} {x1 x2 v : Value} (hRp : Rp g l row rs [g.start] 0) (hnow : NowR W v [g.start])
    (hgo : ∀ w', Chg noB W w' → law20_TreeReplays.b28 R x1 x2 (.slice Aw row.length cw) (.pointer (some ⟨q, 0, none⟩)) w') :
    law20_TreeReplays.b32 R x1 x2 (.slice Aw row.length cw) (.pointer (some ⟨q, 0, none⟩)) (.slice Ax rs.length cx) (.int .i64 0) v W := by
  unfold law20_TreeReplays.b32
  refine law20_TreeReplays.l34_intro _ _ _ _ _ _ _ _ _ _ (fun x y z w' => ∃ (done i : Nat) (now : List Int), x = .int .i64 done ∧ z = .int .i64 i ∧ i ≤ rs.length ∧ Rp g l row (rs.drop i) now done ∧ NowR w' y now ∧ Chg noB W w') (fun _ _ z _ => rs.length - iv z) ⟨0, 0, [g.start], rfl, rfl, by omega, hRp, hnow, Chg.refl _ _⟩ ?_
  rintro _ v1 _ w1 ⟨done, i, now, rfl, rfl, hi, hRp1, hnow1, hc1⟩ C hC
  have hrl := E.rsl
  unfold law20_TreeReplays.b35
  simp -dsimp [go_sem]
  refine SPL_intro (fun p1 => ?_) (fun p1 => ?_) <;> simp at p1
  · have ed : rs.drop i = rs[i] :: rs.drop (i + 1) := List.drop_eq_getElem_cons p1
    rw [ed] at hRp1
    have wi : IntKind.i64.wrap ((i : Int) + 1) = (i : Int) + 1 := IntWalk.i64_in _ (by omega)
    refine strip_loop E (List.getElem?_eq_getElem p1) hRp1 hnow1 hc1 (by rw [List.length_drop]; omega) fun w' v' now' done' h1 h2 h3 => ?_
    unfold law20_TreeReplays.b37
    simp -dsimp [go_sem, wi]
    exact hC _ _ _ _ ⟨done', i + 1, now', rfl, by simp, by omega, h3, h2, h1⟩ (by simp [iv]; omega)
  · have hie : i = rs.length := by omega
    subst hie
    rw [List.drop_length] at hRp1
    obtain ⟨e1, e2⟩ := hRp1.done
    have el : now.length = row.length - done := by rw [e1, List.length_take]; omega
    obtain ⟨b, c, rfl, _⟩ := id hnow1
    have hrw := E.rowl
    have ws : IntKind.i64.wrap ((now.length : Int) + (done : Int)) = (row.length : Int) := by rw [IntWalk.i64_in _ (by omega)]; omega
    have hbe : ((row.length : Int) != (row.length : Int)) = false := by simp
    have hrw1 := Rep.below E.rRow (hc1.below (Nat.le_refl _) fun _ _ => id)
    unfold law20_TreeReplays.b30
    simp -dsimp [go_sem, ws, hbe]
    unfold law20_TreeReplays.b30_1
    have hnl : now.length ≤ row.length := by omega
    have hsl : (Instr.sliceAt 24 (.slice Aw row.length cw) none (some (.int .i64 now.length)) none).run Try.prog w1 = .ok (.slice Aw now.length cw) w1 := by
      have hcw : now.length ≤ cw := by
        obtain ⟨_, _, e, h1, _⟩ := hrw1
        injection e with e; injection e with _ _ e; omega
      cases Aw with
      | none => simp [go_sem, hcw]
      | some a => simp [go_sem, hcw]
    simp -dsimp [go_sem, hsl]
    have hrs2 : (rSlice rInt).at1 w1 w1.heap.size (.slice Aw now.length cw) now := by
      obtain ⟨A, c9, e, h1, h2, _, h4⟩ := hrw1
      injection e with e
      injection e with e3 e4 e5
      subst e3 e5
      refine ⟨_, _, rfl, by omega, h2, trivial, fun h0 => ?_⟩
      obtain ⟨b9, o9, e9, hb9, hx⟩ := h4 (by omega)
      refine ⟨b9, o9, e9, by have := hc1.size; omega, fun k x hk => ?_⟩
      rw [e1] at hk
      rw [List.getElem?_take] at hk
      split at hk
      · exact hx k x hk
      · cases hk
    refine CALL_of (Ints_ct hnow1.at1 hrs2 (Nat.le_refl _)) ?_
    rintro _ w2 ⟨rfl, hc2⟩
    simp -dsimp [go_sem]
    unfold law20_TreeReplays.b31
    simp -dsimp [go_sem]
    exact hgo _ (hc1.trans hc2)
end
end Go.Proofs.Ytkacbjhiobnbfaa

/-
  The document's Walk.
-/
namespace Go.Px.Scan
open Go.Px Go.RowKit
/-- What the document's Walk works with. -/
def RW (m N : Nat) (met : List Nat) (a : Option Addr) (cw : Nat) (ws : List Nat) (ao : Option Addr) (co : Nat) (out : List Nat) (q : Nat) (bs : List Value) : List Ch :=
  [rowC 4 1 (some ⟨m, 0, none⟩) N N (metV N met), rowC 3 1 a ws.length cw (natV ws.reverse), rowC 3 1 ao out.length co (natV out), boxC q 61 bs]
def kidsOk (n : Nat) (met : List Nat) (ks : List Int) : Prop := (∀ k ∈ ks, 0 ≤ k ∧ k < n) ∧ freshN met (ks.map Int.toNat)
def slen : Value → Nat | .slice _ n _ => n | _ => 0
end Go.Px.Scan
namespace Go.Proofs.Ytkacbjhiobnbfaa
open Go.Px Go.Px.Scan Go.RowKit
set_option maxHeartbeats 1000000
set_option linter.unusedSimpArgs false
set_option linter.unusedVariables false
set_option maxRecDepth 100000
attribute [-go_sem] Builtin.append_ ref20_Walk.b13 ref20_Walk.b22 ref20_Walk.b35 ref20_Walk.b34 ref20_Walk.b3 ref20_Walk.b37 ref20_Walk.b33 ref20_Walk.b32 ref20_Walk.b21 ref20_Walk.b10

theorem met_loop {W w1 : World} {B m N n q : Nat} {met ws out : List Nat} {a ao : Option Addr} {cw co cr : Nat} {Ar : Option Addr} {v1 v2 v3 x2 x9 x10 : Value} {ks : List Int} {R : Ending → World → Prop} {C7 : Value → Value → World → Prop}
    (s : St noB W w1 (RW m N met a cw ws ao co out q [v1, v2, v3, .slice Ar ks.length cr])) (hkr : (rSlice rInt).at1 W B (.slice Ar ks.length cr) ks) (hB : B ≤ W.heap.size) (hn : n < N)
    (hno : ∀ w', ¬ kidsOk n met ks → Chg noB W w' → R (.returned (.tuple #[.slice none 0 0, .bool false])) w')
    (hyes : kidsOk n met ks → ∀ w', St noB W w' (RW m N (kidsN (0, 0, 0, ks) ++ met) a cw ws ao co out q [v1, v2, v3, .slice Ar ks.length cr]) → ref20_Walk.b13 R C7 x2 x9 x10 (.pointer (some ⟨q, 0, none⟩)) w') :
    ref20_Walk.b22 R C7 x2 (.slice (some ⟨m, 0, none⟩) N N) x9 x10 (.int .i64 n) (.pointer (some ⟨q, 0, none⟩)) w1 := by
  obtain ⟨_, _, e0, hkl, hkm, _⟩ := slice_form hkr
  injection e0 with e1 e2 e3; subst e1 e3
  have hkm : ks.length ≤ maxLen := by omega
  unfold ref20_Walk.b22
  refine ref20_Walk.l24_intro _ _ _ _ _ _ _ _ _ _ (fun y w' => ∃ i : Nat, y = .int .i64 i ∧ i ≤ ks.length ∧ kidsOk n met (ks.take i) ∧ St noB W w' (RW m N ((ks.take i).map Int.toNat ++ met) a cw ws ao co out q [v1, v2, v3, .slice Ar ks.length cr])) (fun y _ => ks.length - iv y) ⟨0, rfl, by omega, by simp [kidsOk, freshN], by simpa using s⟩ ?_
  rintro _ w2 ⟨i, rfl, hi, ⟨hr0, hf⟩, s2⟩ C hC
  have y2 := s2.box 3 rfl
  simp [boxAt] at y2
  simp -dsimp [go_sem, y2]
  refine SPL_intro (fun p1 => ?_) (fun p1 => ?_) <;> simp at p1
  · have wi : IntKind.i64.wrap ((i : Int) + 1) = (i : Int) + 1 := wrap_succ (n := ks.length) (by omega) hkm
    obtain ⟨g, o, rfl, hgb, ck, hkin⟩ := Go.Px.ints_at (Rep.below hkr (s2.chg.below hB fun _ _ => id)) p1
    obtain ⟨k, hk⟩ : ∃ k, ks[i] = k := ⟨_, rfl⟩
    rw [hk] at ck
    have et : ks.take (i + 1) = ks.take i ++ [k] := by rw [List.take_succ_eq_append_getElem p1, hk]
    have hbad : ∀ w', ¬ kidsOk n met ks → Chg noB W w' → ref20_Walk.b33 R C7 C (.slice (some ⟨m, 0, none⟩) N N) (.int .i64 i) (.int .i64 k) (.bool true) w' := fun w' h1 h2 => by
      unfold ref20_Walk.b33
      simp -dsimp [go_sem]
      exact hno w' h1 h2
    have hkm2 : k ∈ ks := hk ▸ List.getElem_mem p1
    simp -dsimp [go_sem, y2, p1, ck]
    unfold ref20_Walk.b32
    simp -dsimp [go_sem]
    refine SPL_intro (fun p2 => ?_) (fun p2 => ?_) <;> simp at p2
    · exact hbad _ (fun h => by have := h.1 k hkm2; omega) s2.chg
    simp -dsimp [go_sem]
    refine SPL_intro (fun p3 => ?_) (fun p3 => ?_) <;> simp at p3
    · exact hbad _ (fun h => by have := h.1 k hkm2; omega) s2.chg
    obtain ⟨j, rfl⟩ : ∃ j : Nat, k = j := ⟨k.toNat, by omega⟩
    have hjN : j < N := by omega
    obtain ⟨met1, hmet1⟩ : ∃ met1, (ks.take i).map Int.toNat ++ met = met1 := ⟨_, rfl⟩
    rw [hmet1] at s2
    obtain ⟨gm, em, cm, fm⟩ := s2.rowAt 0 rfl (j := j) (by rw [metV_len]; exact hjN)
    injection em with em; injection em with em; subst em
    have cmv : (metV N met1)[j]'(by rw [metV_len]; exact hjN) = .bool (decide (j ∈ met1)) := by
      have := metV_get (met := met1) hjN
      rw [List.getElem?_eq_getElem (by rw [metV_len]; exact hjN)] at this
      injection this
    rw [cmv] at cm
    have hmi : (ks.map Int.toNat)[i]'(by simpa using p1) = j := by simp [hk]
    have htm : (ks.map Int.toNat).take i = (ks.take i).map Int.toNat := by simp
    simp -dsimp [go_sem, hjN, cm]
    unfold ref20_Walk.b33
    refine SPL_intro (fun p4 => ?_) (fun p4 => ?_)
    · have hin : j ∈ met1 := by simpa using p4
      refine hno _ (fun h => fresh_not (ks := ks.map Int.toNat) (i := i) (by simpa using p1) ?_ h.2) s2.chg
      rw [hmi, htm, hmet1]; exact hin
    · have hnin : j ∉ met1 := by simpa using p4
      have hf2 : freshN met ((ks.take (i + 1)).map Int.toNat) := by
        have := fresh_take (met := met) (ks := ks.map Int.toNat) (i := i) (by rw [htm]; exact hf) (by simpa using p1) (by rw [hmi, htm, hmet1]; exact hnin)
        simpa using this
      have s3 := s2.setRow 0 rfl j (.bool true)
      rw [metV_set] at s3
      simp -dsimp [go_sem, hjN, cm, fm, wi]
      refine hC _ _ ⟨i + 1, by simp, by omega, ⟨fun x hx => ?_, hf2⟩, ?_⟩ (by simp [iv]; omega)
      · rw [et] at hx
        rcases List.mem_append.1 hx with hx | hx
        · exact hr0 x hx
        · simp at hx; subst hx; omega
      · have e2 : metV N ((ks.take (i + 1)).map Int.toNat ++ met) = metV N (j :: met1) := metV_congr fun x => by rw [et, ← hmet1]; simp; exact or_left_comm
        unfold RW
        rw [e2]
        exact s3
  · have hik : i = ks.length := by omega
    subst hik
    rw [List.take_length] at hr0 hf s2
    exact hyes ⟨hr0, hf⟩ _ s2

theorem push_loop {W w1 : World} {B m N q : Nat} {met ws out : List Nat} {a ao : Option Addr} {cw co cr : Nat} {Ar : Option Addr} {v1 v2 v3 x10 : Value} {rt : Bool} {ks : List Int} {R : Ending → World → Prop} {C7 : Value → Value → World → Prop}
    (s : St noB W w1 (RW m N met a cw ws ao co out q [v1, v2, v3, .slice Ar ks.length cr])) (hkr : (rSlice rInt).at1 W B (.slice Ar ks.length cr) ks) (hB : B ≤ W.heap.size) (h0 : ∀ k ∈ ks, 0 ≤ k) (hN : N ≤ 3000000000000) (hl : ks.length + ws.length ≤ N)
    (hC : ∀ a' cw' w', St noB W w' (RW m N met a' cw' (nextW rt (0, 0, 0, ks) ws) ao co out q [v1, v2, v3, .slice Ar ks.length cr]) → C7 (.slice a' (nextW rt (0, 0, 0, ks) ws).length cw') x10 w') :
    ref20_Walk.b13 R C7 (.bool rt) (.slice a ws.length cw) x10 (.pointer (some ⟨q, 0, none⟩)) w1 := by
  obtain ⟨_, _, e0, hkl, hkm, _⟩ := slice_form hkr
  injection e0 with e1 e2 e3; subst e1 e3
  obtain ⟨kk, hkk⟩ : ∃ kk, (if rt then kidsN (0, 0, 0, ks) else (kidsN (0, 0, 0, ks)).reverse) = kk := ⟨_, rfl⟩
  have hkkl : kk.length = ks.length := by rw [← hkk]; cases rt <;> simp [kidsN]
  have hnx : nextW rt (0, 0, 0, ks) ws = kk.reverse ++ ws := by unfold nextW; rw [← hkk]; cases rt <;> simp
  rw [hnx] at hC
  unfold ref20_Walk.b13
  refine ref20_Walk.l15_intro _ _ _ _ _ _ _ _ (fun y z w' => ∃ (i : Nat) (a' : Option Addr) (cw' : Nat), z = .int .i64 i ∧ i ≤ kk.length ∧ y = .slice a' ((kk.take i).reverse ++ ws).length cw' ∧ St noB W w' (RW m N met a' cw' ((kk.take i).reverse ++ ws) ao co out q [v1, v2, v3, .slice Ar ks.length cr])) (fun _ z _ => ks.length - iv z) ⟨0, a, cw, rfl, by omega, by simp, by simpa using s⟩ ?_
  rintro _ _ w2 ⟨i, a2, cw2, rfl, hi, rfl, s2⟩ C hC2
  have hwl : ((kk.take i).reverse ++ ws).length = i + ws.length := by simp; omega
  obtain ⟨ws1, hws1⟩ : ∃ ws1, (kk.take i).reverse ++ ws = ws1 := ⟨_, rfl⟩
  rw [hws1] at s2 hwl ⊢
  have y2 := s2.box 3 rfl
  simp [boxAt] at y2
  simp -dsimp [go_sem, y2]
  refine SPL_intro (fun p1 => ?_) (fun p1 => ?_) <;> simp at p1
  · have wi : IntKind.i64.wrap ((i : Int) + 1) = (i : Int) + 1 := IntWalk.i64_in _ (by omega)
    have w4 : IntKind.i64.wrap ((ks.length : Int) - 1) = (ks.length : Int) - 1 := IntWalk.i64_in _ (by omega)
    have w5 : IntKind.i64.wrap ((ks.length : Int) - 1 - i) = ((ks.length - 1 - i : Nat) : Int) := by rw [show (ks.length : Int) - 1 - i = ((ks.length - 1 - i : Nat) : Int) by omega]; exact IntWalk.i64_in _ (by omega)
    have hr2 : ks.length - 1 - i < ks.length := by omega
    have hbl := Rep.below hkr (s2.chg.below hB fun _ _ => id)
    obtain ⟨g, o, rfl, hgb, ck, hkin⟩ := Go.Px.ints_at hbl p1
    obtain ⟨g', o', eg, hgb', ck', _⟩ := Go.Px.ints_at hbl hr2
    injection eg with eg; injection eg with eg1 eg2; subst eg1 eg2
    have hkv : Value.int .i64 (if rt then ks[i] else ks[ks.length - 1 - i]) = .int .i64 ((kk[i]'(by omega) : Nat) : Int) := by
      congr 1
      cases rt with
      | true => 
        simp only [if_true] at hkk ⊢
        subst hkk
        simp [kidsN]
        have := h0 _ (List.getElem_mem p1); omega
      | false => 
        simp only [Bool.false_eq_true, if_false] at hkk ⊢
        subst hkk
        simp [kidsN]
        have := h0 _ (List.getElem_mem hr2); omega
    obtain ⟨k, hk⟩ : ∃ k, kk[i]'(by omega) = k := ⟨_, rfl⟩
    rw [hk] at hkv
    have et : kk.take (i + 1) = kk.take i ++ [k] := by rw [List.take_succ_eq_append_getElem (by omega), hk]
    have b21 : ref20_Walk.b21 R C7 C (.slice a2 ws1.length cw2) (.int .i64 i) (.int .i64 k) w2 := by
      unfold ref20_Walk.b21
      simp -dsimp [go_sem]
      refine s2.append1 1 rfl Try.underlying24 iInt' rfl (by omega) (news := [Value.int .i64 k]) rfl (by simp [Value.oneCell']) (by unfold maxLen; omega) (by unfold maxBytes; omega) fun g2 cap w3 s3 => ?_
      simp -dsimp [go_sem, wi]
      have e1 : (kk.take (i + 1)).reverse ++ ws = k :: ws1 := by rw [et, ← hws1]; simp
      have e3 : natV (k :: ws1).reverse = natV ws1.reverse ++ [Value.int .i64 k] := by simp [natV]
      refine hC2 _ _ _ ⟨i + 1, some ⟨g2, 0, none⟩, cap, by simp, by omega, by rw [e1]; rfl, ?_⟩ (by simp [iv]; omega)
      rw [e1]
      unfold RW
      rw [e3]
      exact s3
    simp -dsimp [go_sem, y2, w4, w5, ck', hr2]
    cases rt with
    | true =>
      simp -dsimp [go_sem, y2, p1, ck]
      simp only [if_true] at hkv
      rw [hkv]
      exact b21
    | false =>
      simp -dsimp [go_sem]
      simp only [Bool.false_eq_true, if_false] at hkv
      rw [hkv]
      exact b21
  · have hik : i = kk.length := by omega
    subst hik
    rw [List.take_length] at hws1
    subst hws1
    exact hC _ _ _ s2

theorem Walk_ct {w : World} {B : Nat} {nv : Value} {l : List Nd} {root : Int} {rt : Bool} (h : (rSlice rNd).at1 w B nv l) (hB : B ≤ w.heap.size) (hN : l.length ≤ 3000000000000) (hr : inI64 root) :
    Ct Try.prog ref20_Walk.id #[nv, .int .i64 root, .bool rt] w fun v w' => match walkP l rt root with
      | some r => ∃ a c, v = .tuple #[.slice a r.length c, .bool true] ∧ St noB w w' [rowC 3 1 a r.length c (natV r)]
      | none => v = .tuple #[.slice none 0 0, .bool false] ∧ Chg noB w w' := by
  refine ref20_Walk.ct fun R hR => ?_
  obtain ⟨A, cn, rfl, hl1, hl2, _⟩ := slice_form h
  have hno : ∀ w', walkP l rt root = none → Chg noB w w' → R (.returned (.tuple #[.slice none 0 0, .bool false])) w' := by
    intro w' h1 h2; refine hR _ _ ?_; rw [h1]; exact ⟨rfl, h2⟩
  have hyes : ∀ w' r a c, walkP l rt root = some r → St noB w w' [rowC 3 1 a r.length c (natV r)] → R (.returned (.tuple #[.slice a r.length c, .bool true])) w' := by
    intro w' r a c h1 h2; refine hR _ _ ?_; rw [h1]; exact ⟨a, c, rfl, h2⟩
  clear hR
  have hbad : ∀ w', ¬ (0 ≤ root ∧ root < l.length) → Chg noB w w' → ref20_Walk.b37 R (.slice A l.length cn) (.int .i64 root) (.bool rt) (.bool true) w' := fun w' h1 h2 => by
    unfold ref20_Walk.b37
    simp -dsimp [go_sem]
    exact hno _ (by unfold walkP; rw [if_neg h1]) h2
  unfold ref20_Walk.run
  simp -dsimp [go_sem]
  refine SPL_intro (fun p1 => ?_) (fun p1 => ?_) <;> simp at p1
  · exact hbad _ (by omega) (Chg.refl _ _)
  simp -dsimp [go_sem]
  unfold ref20_Walk.b37
  refine SPL_intro (fun p2 => ?_) (fun p2 => ?_) <;> simp at p2
  · exact hno _ (by unfold walkP; rw [if_neg (by omega)]) (Chg.refl _ _)
  obtain ⟨q, rfl⟩ : ∃ q : Nat, root = q := ⟨root.toNat, by omega⟩
  have hq : q < l.length := by omega
  have hmk := mkFlags w l.length (by unfold maxBytes; omega)
  have s1 := (St.refl noB w).lit 4 1 l.length (Array.replicate l.length (Value.bool false)) (by unfold maxLen; omega) (by simp)
  rw [Array.toList_replicate, ← metV_nil] at s1
  unfold ref20_Walk.b3
  obtain ⟨m, hm⟩ : ∃ m, w.heap.size = m := ⟨_, rfl⟩
  rw [hm] at s1 hmk
  obtain ⟨N, hNe⟩ : ∃ N, l.length = N := ⟨_, rfl⟩
  rw [hNe] at s1 hmk hq hN
  obtain ⟨gm, em, cm, fm⟩ := s1.rowAt 0 rfl (j := q) (by rw [metV_len]; exact hq)
  injection em with em; injection em with em; subst em
  have s2 := s1.setRow 0 rfl q (.bool true)
  rw [metV_set] at s2
  rw [hNe]
  have cmv : (metV N [])[q]'(by rw [metV_len]; exact hq) = .bool false := by simp [metV]
  rw [cmv] at cm
  simp -dsimp [go_sem, hmk, hq, cm, fm]
  have s2 : St noB w ((w.alloc (.cells (Array.replicate N (Value.bool false)) 4)).setCell ⟨m, q, none⟩ (.bool true)) [rowC 4 1 (some ⟨m, 0, none⟩) N N (metV N [q])] := s2
  have hsz : ((w.alloc (.cells (Array.replicate N (Value.bool false)) 4)).setCell ⟨m, q, none⟩ (.bool true)).heap.size = w.heap.size + 1 := by simp
  generalize (w.alloc (.cells (Array.replicate N (Value.bool false)) 4)).setCell ⟨m, q, none⟩ (.bool true) = w2 at s2 hsz ⊢
  have s3 := (s2.lit 3 1 1 #[.int .i64 q] (by simp [maxLen]) rfl).nilRow 3 1
  rw [hsz] at s3
  obtain ⟨g, hg⟩ : ∃ g, w.heap.size + 1 = g := ⟨_, rfl⟩
  rw [hg] at s3 ⊢
  generalize w2.alloc (.cells #[.int .i64 q] 3) = w3 at s3 ⊢
  refine ref20_Walk.l7_intro _ _ _ _ _ _ _ (fun y z w' => ∃ (f : Nat) (out ws : List Nat) (a : Option Addr) (cw : Nat) (ao : Option Addr) (co : Nat), y = .slice a ws.length cw ∧ z = .slice ao out.length co ∧ out.length + f = N ∧ walkF l rt f out ws = walkP l rt q ∧ (out ++ ws).Nodup ∧ (∀ x ∈ out ++ ws, x < N) ∧
    St noB w w' [rowC 4 1 (some ⟨m, 0, none⟩) N N (metV N (out ++ ws)), rowC 3 1 a ws.length cw (natV ws.reverse), rowC 3 1 ao out.length co (natV out)]) (fun _ z _ => N - slen z) ⟨N, [], [q], some ⟨g, 0, none⟩, 1, none, 0, rfl, rfl, by simp, ?_, by simp, by simp; omega, s3⟩ ?_
  · unfold walkP; rw [if_pos ⟨by omega, by omega⟩, hNe]; rfl
  rintro _ _ w4 ⟨f, out, ws, a, cw, ao, co, rfl, rfl, hf, hl, hnd, hlt, s4⟩ C hC
  cases ws with
  | nil =>
    simp -dsimp [go_sem]
    exact hyes _ out _ _ (by rw [← hl]; cases f <;> rfl) (s4.pick [2] (by decide) rfl)
  | cons n ws =>
    have hnN : n < N := hlt n (by simp)
    have hwN : out.length + (ws.length + 1) ≤ N := by
      have := nodup_len N _ hnd hlt
      simp at this; omega
    obtain ⟨f, rfl⟩ : ∃ f', f = f' + 1 := ⟨f - 1, by omega⟩
    have hnl : n < l.length := by omega
    have hgd : l.getD n zN = l[n] := by simp [hnl]
    have wl : IntKind.i64.wrap (ws.length : Int) = ws.length := IntWalk.i64_in _ (by omega)
    have xl : (ws.length : Int) < (ws.length : Int) + 1 := by omega
    have hne : 0 < ws.length + 1 := by omega
    obtain ⟨g1, eg, cg, fg⟩ := s4.rowAt 1 rfl (j := ws.length) (by simp [natV])
    have cg' : (natV (n :: ws).reverse)[ws.length]'(by simp [natV]) = .int .i64 n := by simp [natV]
    rw [cg'] at cg
    subst eg
    have hcw : ws.length + 1 ≤ cw := (s4.rowSize 1 rfl).2.1
    have hcw' : ws.length ≤ cw := by omega
    have e8 : natV (n :: ws).reverse = natV ws.reverse ++ [Value.int .i64 n] := by simp [natV]
    have s5 := s4.popRow 1 (n := ws.length) (xs := natV ws.reverse) (last := [Value.int .i64 n]) (by rw [← e8]; rfl) (by simp [natV])
    have s5 : St noB w w4 [rowC 4 1 (some ⟨m, 0, none⟩) N N (metV N (out ++ n :: ws)), rowC 3 1 (some ⟨g1, 0, none⟩) ws.length cw (natV ws.reverse), rowC 3 1 ao out.length co (natV out)] := s5
    obtain ⟨bp, op, vr, ep, hbp, x1, x2, x3, x4, hkr, z1, z2, z3⟩ := nodes_at h hnl
    subst ep
    have hbpw : bp < w.heap.size := by omega
    have x1 := (s5.chg.cell (p := ⟨bp, op + n * 4, none⟩) hbpw id).trans x1
    have x2 := (s5.chg.cell (p := ⟨bp, op + n * 4 + 1, none⟩) hbpw id).trans x2
    have x3 := (s5.chg.cell (p := ⟨bp, op + n * 4 + 2, none⟩) hbpw id).trans x3
    have x4 := (s5.chg.cell (p := ⟨bp, op + n * 4 + 3, none⟩) hbpw id).trans x4
    obtain ⟨Ar, cr, rfl, hr1, hr2, _⟩ := slice_form hkr
    obtain ⟨x, hx⟩ : ∃ x, l[n] = x := ⟨_, rfl⟩
    rw [hx] at x1 x2 x3 x4 hkr hr1 z1 z2 z3 hgd
    obtain ⟨sy, pr, tk, ks⟩ := x
    simp only at x1 x2 x3 x4 hkr hr1 z1 z2 z3
    have s6 := s5.alloc #[.int .i64 sy, .int .i64 pr, .int .i64 tk, .slice Ar ks.length cr] 61
    obtain ⟨qb, hqb⟩ : ∃ q, w4.heap.size = q := ⟨_, rfl⟩
    rw [hqb] at s6
    simp -dsimp [go_sem, hne]
    unfold ref20_Walk.b10
    simp -dsimp [go_sem, wl, xl, cg, hcw', hnN, x1, x2, x3, x4, hqb]
    have hsz6 : (w4.alloc (.cells #[.int .i64 sy, .int .i64 pr, .int .i64 tk, .slice Ar ks.length cr] 61)).heap.size = qb + 1 := by simp [hqb]
    rw [← hsz6]
    generalize w4.alloc (.cells #[.int .i64 sy, .int .i64 pr, .int .i64 tk, .slice Ar ks.length cr] 61) = w6 at s6 ⊢
    refine s6.append1 2 rfl Try.underlying24 iInt' rfl (by omega) (news := [Value.int .i64 n]) rfl (by simp [Value.oneCell']) (by unfold maxLen; omega) (by unfold maxBytes; omega) fun g7 c7 w7 s7 => ?_
    have e7 : natV out ++ [Value.int .i64 (n : Int)] = natV (out ++ [n]) := by rw [natV_append]; rfl
    have s7 : St noB w w7 (RW m N (out ++ n :: ws) (some ⟨g1, 0, none⟩) cw ws (some ⟨g7, 0, none⟩) c7 (out ++ [n]) qb [.int .i64 sy, .int .i64 pr, .int .i64 tk, .slice Ar ks.length cr]) := by
      unfold RW; rw [← e7, List.length_append]; exact s7
    have hstep : walkP l rt q = if okN n (sy, pr, tk, ks) ∧ freshN (n :: (out ++ ws)) (kidsN (0, 0, 0, ks)) then walkF l rt f (out ++ [n]) (nextW rt (0, 0, 0, ks) ws) else none := by
      rw [← hl, walkF, hgd]; rfl
    have hfc : freshN (out ++ n :: ws) (kidsN (0, 0, 0, ks)) ↔ freshN (n :: (out ++ ws)) (kidsN (0, 0, 0, ks)) := fresh_congr (fun i => by simp [or_left_comm])
    have hiff : okN n (sy, pr, tk, ks) ∧ freshN (n :: (out ++ ws)) (kidsN (0, 0, 0, ks)) ↔ (0 ≤ sy ∧ ((pr = -1 ∧ 0 ≤ tk ∧ ks = []) ∨ (0 ≤ pr ∧ tk = 0))) ∧ kidsOk n (out ++ n :: ws) ks := by
      rw [← hfc]
      unfold okN kidsOk
      simp only
      constructor
      · rintro ⟨⟨h1, h2 | ⟨h2, h3, h4⟩⟩, h5⟩
        · exact ⟨⟨h1, Or.inl h2⟩, by rw [h2.2.2]; simp, h5⟩
        · exact ⟨⟨h1, Or.inr ⟨h2, h3⟩⟩, h4, h5⟩
      · rintro ⟨⟨h1, h2 | ⟨h2, h3⟩⟩, h4, h5⟩
        · exact ⟨⟨h1, Or.inl h2⟩, h5⟩
        · exact ⟨⟨h1, Or.inr ⟨h2, h3, h4⟩⟩, h5⟩
    have hsY : (0 ≤ sy ∧ ((pr = -1 ∧ 0 ≤ tk ∧ ks = []) ∨ (0 ≤ pr ∧ tk = 0))) ∧ kidsOk n (out ++ n :: ws) ks → walkP l rt q = walkF l rt f (out ++ [n]) (nextW rt (0, 0, 0, ks) ws) := fun h => by rw [hstep, if_pos (hiff.2 h)]
    have hsN : ¬ ((0 ≤ sy ∧ ((pr = -1 ∧ 0 ≤ tk ∧ ks = []) ∨ (0 ≤ pr ∧ tk = 0))) ∧ kidsOk n (out ++ n :: ws) ks) → walkP l rt q = none := fun h => by rw [hstep, if_neg fun h' => h (hiff.1 h')]
    have hbad2 : ∀ {x9 x10 x11 x12 : Value}, ¬ (0 ≤ sy ∧ ((pr = -1 ∧ 0 ≤ tk ∧ ks = []) ∨ (0 ≤ pr ∧ tk = 0))) → ref20_Walk.b35 R C (.bool rt) (.slice (some ⟨m, 0, none⟩) N N) x9 x10 x11 x12 (.bool true) w7 := fun hb => by
      unfold ref20_Walk.b35
      simp -dsimp [go_sem]
      exact hno _ (hsN fun h => hb h.1) s7.chg
    have hgood : (0 ≤ sy ∧ ((pr = -1 ∧ 0 ≤ tk ∧ ks = []) ∨ (0 ≤ pr ∧ tk = 0))) → ref20_Walk.b35 R C (.bool rt) (.slice (some ⟨m, 0, none⟩) N N) (.slice (some ⟨g1, 0, none⟩) ws.length cw) (.slice (some ⟨g7, 0, none⟩) (out.length + 1) c7) (.int .i64 n) (.pointer (some ⟨qb, 0, none⟩)) (.bool false) w7 := fun hb => by
      unfold ref20_Walk.b35
      simp -dsimp [go_sem]
      refine met_loop s7 hkr hB hnN (fun w' h1 h2 => hno _ (hsN fun h => h1 h.2) h2) fun hok w8 s8 => ?_
      have hfr := (hsY ⟨hb, hok⟩).symm
      obtain ⟨kk, hkk⟩ : ∃ kk, (if rt then kidsN (0, 0, 0, ks) else (kidsN (0, 0, 0, ks)).reverse) = kk := ⟨_, rfl⟩
      have hnx : nextW rt (0, 0, 0, ks) ws = kk.reverse ++ ws := by unfold nextW; rw [← hkk]; cases rt <;> simp
      have hkf : freshN (out ++ n :: ws) kk := by
        rw [← hkk]
        cases rt
        · exact fresh_rev.2 hok.2
        · exact hok.2
      have hmk : ∀ k, k ∈ kk → k < n := by
        intro k hk
        have hk2 : k ∈ kidsN (0, 0, 0, ks) := by rw [← hkk] at hk; cases rt <;> simpa using hk
        obtain ⟨y, hy, rfl⟩ := List.mem_map.1 hk2
        have := hok.1 y hy; omega
      have hnd2 := next_nodup hnd hkf
      have hlt2 : ∀ x ∈ out ++ [n] ++ (kk.reverse ++ ws), x < N := by
        intro x hx
        simp at hx
        rcases hx with hx | hx | hx | hx
        · exact hlt x (by simp [hx])
        · exact hlt x (by simp [hx])
        · have := hmk x hx; omega
        · exact hlt x (by simp [hx])
      have hkl : kk.length = ks.length := by rw [← hkk]; cases rt <;> simp [kidsN]
      have hlen := nodup_len N _ hnd2 hlt2
      simp at hlen
      refine push_loop s8 hkr hB (fun k hk => (hok.1 k hk).1) hN (by omega) fun a' cw' w9 s9 => ?_
      refine hC _ _ _ ⟨f, out ++ [n], nextW rt (0, 0, 0, ks) ws, a', cw', some ⟨g7, 0, none⟩, c7, rfl, by rw [List.length_append]; rfl, by simp; omega, hfr, ?_, ?_, ?_⟩ (by simp [slen]; omega)
      · rw [hnx]; exact hnd2
      · rw [hnx]; exact hlt2
      · have s10 := s9.take 3
        have e : metV N (out ++ [n] ++ nextW rt (0, 0, 0, ks) ws) = metV N (kidsN (0, 0, 0, ks) ++ (out ++ n :: ws)) := metV_congr fun x => by
          have : x ∈ nextW rt (0, 0, 0, ks) ws ↔ x ∈ kidsN (0, 0, 0, ks) ∨ x ∈ ws := by unfold nextW; cases rt <;> simp
          rw [List.mem_append, this]
          simp only [List.mem_append, List.mem_cons, List.not_mem_nil, or_false]
          constructor
          · rintro ((h | h) | (h | h)) <;> simp [h]
          · rintro (h | h | h | h) <;> simp [h]
        rw [e]
        have e2 : (out ++ [n]).length = out.length + 1 := by simp
        exact s10
    unfold ref20_Walk.b34
    have y7 := s7.box 3 rfl
    simp [boxAt] at y7
    simp -dsimp [go_sem, y7]
    refine SPL_intro (fun p3 => ?_) (fun p3 => ?_) <;> simp at p3
    · exact hbad2 (by omega)
    simp -dsimp [go_sem, y7]
    refine SPL_intro (fun p4 => ?_) (fun p4 => ?_) <;> simp at p4
    · exact hbad2 (by omega)
    simp -dsimp [go_sem, y7]
    refine SPL_intro (fun p5 => ?_) (fun p5 => ?_) <;> simp at p5
    · exact hbad2 (by omega)
    simp -dsimp [go_sem, y7]
    refine SPL_intro (fun p6 => ?_) (fun p6 => ?_) <;> simp at p6
    · simp -dsimp [go_sem, y7]
      refine SPL_intro (fun p7 => ?_) (fun p7 => ?_) <;> simp at p7
      · exact hbad2 (fun h => by
          rcases h.2 with h | h
          · rw [h.2.2] at p7; simp at p7
          · omega)
      · simp -dsimp [go_sem, y7]
        have hk0 : ks = [] := by simpa using p7
        have p8 : ¬ 0 ≤ pr := by omega
        simp -dsimp [go_sem, p8]
        exact hgood ⟨by omega, Or.inl ⟨p6, p5, hk0⟩⟩
    · simp -dsimp [go_sem, y7]
      have p8 : 0 ≤ pr := by omega
      simp -dsimp [go_sem, p8, y7]
      cases ht : (tk != 0) with
      | false => exact hgood ⟨by omega, Or.inr ⟨p8, by simpa using ht⟩⟩
      | true =>
        have ht : tk ≠ 0 := by simpa using ht
        exact hbad2 (by omega)
end Go.Proofs.Ytkacbjhiobnbfaa

/-
  TreeReplays: with a token turned.
-/
namespace Go.Px
theorem flat_set {α : Type} {enc : α → List Value} {size : Nat} : ∀ {l : List α} {i : Nat} {x y : α} {j : Nat} {u : Value}, (∀ x ∈ l, (enc x).length = size) → l[i]? = some x → j < size → enc y = (enc x).set j u → (l.flatMap enc).set (i * size + j) u = (l.set i y).flatMap enc
  | [], _, _, _, _, _, _, h, _, _ => by simp at h
  | z :: l, 0, x, y, j, u, hs, h, hj, he => by
    simp at h; subst h
    rw [List.flatMap_cons, List.set_cons_zero, List.flatMap_cons, Nat.zero_mul, Nat.zero_add, List.set_append_left _ _ (by rw [hs z (by simp)]; exact hj), he]
  | z :: l, i + 1, x, y, j, u, hs, h, hj, he => by
    have hz := hs z (by simp)
    rw [List.flatMap_cons, List.set_cons_succ, List.flatMap_cons, List.set_append_right _ _ (by rw [hz, Nat.succ_mul]; omega), hz, Nat.succ_mul, show i * size + size + j - size = i * size + j by omega]
    rw [flat_set (fun x hx => hs x (by simp [hx])) (by simpa using h) hj he]
theorem zip_set {α β : Type} : ∀ {l : List α} {m : List β} {i : Nat} {y : α} {v : β}, m[i]? = some v → (l.set i y).zip m = (l.zip m).set i (y, v)
  | [], m, i, y, v, _ => by simp
  | a :: l, [], i, y, v, h => by simp at h
  | a :: l, b :: m, 0, y, v, h => by simp at h; subst h; simp
  | a :: l, b :: m, i + 1, y, v, h => by
    simp only [List.set_cons_succ, List.zip_cons_cons]
    rw [zip_set (by simpa using h)]
end Go.Px
namespace Go.Proofs.Ytkacbjhiobnbfaa
open Go.Px Go.Px.Scan Go.RowKit
set_option maxHeartbeats 1000000
set_option linter.unusedSimpArgs false
set_option linter.unusedVariables false
set_option maxRecDepth 100000
attribute [-go_sem] Builtin.append_ law20_TreeReplays.b9 law20_TreeReplays.b15 law20_TreeReplays.b20 law20_TreeReplays.b19 law20_TreeReplays.b19_1 law20_TreeReplays.b19_2 law20_TreeReplays.b25 law20_TreeReplays.b24 law20_TreeReplays.b24_1 law20_TreeReplays.b21 law20_TreeReplays.b17 law20_TreeReplays.b17_1 law20_TreeReplays.b17_2 law20_TreeReplays.b27 law20_TreeReplays.b26 law20_TreeReplays.b10
theorem row_copy {X : Pan} {K : Value → World → Prop} {w : World} {row : List Int} {Aw : Option Addr} {cw : Nat} (hrow : (rSlice rInt).at1 w w.heap.size (.slice Aw row.length cw) row) (hl : row.length ≤ 2000000)
    (hK : ∀ a c w', St noB w w' [rowC 3 1 a row.length c (row.flatMap cInt)] → K (.slice a row.length c) w') :
    RUN Try.prog X (Instr.buildSlice 24 0 #[]) w fun v1 w2 => RUN Try.prog X (Builtin.append_ #[24, 24] 24 #[v1, .slice Aw row.length cw]) w2 fun v3 w4 => K v3 w4 := by
  have s1 := (St.refl noB w).lit 3 1 0 #[] (by simp) (by simp)
  simp -dsimp [go_sem]
  refine s1.appendRd (r := rInt) (enc := cInt) 0 rfl uInts iInt rfl (by decide) (Rep.below hrow (s1.chg.below (Nat.le_refl _) fun _ _ => id)) (fun h _ => h.1) (fun x _ u hu => by simp [cInt] at hu; subst hu; rfl) (fun _ _ => rfl) (by unfold maxLen; omega) (by unfold maxBytes; omega) ?_
  intro a c w' s2
  rw [Nat.zero_add] at s2 ⊢
  exact hK a c w' s2
/-- What the law works with. -/
structure TkE (W : World) (q : Nat) (g : Gr) (A1 A2 A3 A4 : Option Addr) (c1 c2 c3 c4 : Nat) (l : List Nd) (An : Option Addr) (cn : Nat) (root : Int) (row : List Int) (Aw : Option Addr) (cw : Nat) : Prop where
  k0 : W.cell? ⟨q, 0, none⟩ = some (.slice A1 g.terms.length c1)
  k1 : W.cell? ⟨q, 1, none⟩ = some (.slice A2 g.nons.length c2)
  k2 : W.cell? ⟨q, 2, none⟩ = some (.slice A3 g.levels.length c3)
  k3 : W.cell? ⟨q, 3, none⟩ = some (.int .i64 g.start)
  k4 : W.cell? ⟨q, 4, none⟩ = some (.slice A4 g.prods.length c4)
  hg : rGram.atN W W.heap.size (.agg #[.slice A1 g.terms.length c1, .slice A2 g.nons.length c2, .slice A3 g.levels.length c3, .int .i64 g.start, .slice A4 g.prods.length c4]) g
  hn : (rSlice rNd).at1 W W.heap.size (.slice An l.length cn) l
  hrow : (rSlice rInt).at1 W W.heap.size (.slice Aw row.length cw) row
  fit : GFit g
  hN : l.length * 48 ≤ maxBytes
  hkd : ∀ x ∈ l, x.2.2.2.length * 8 ≤ maxBytes
  hr : inI64 root
  rowl : row.length ≤ 2000000
theorem flat_int (l : List Int) : l.flatMap cInt = intV l := by rw [cInt_flat]; rfl
section
variable {W : World} {q : Nat} {g : Gr} {A1 A2 A3 A4 An Aw : Option Addr} {c1 c2 c3 c4 cn cw : Nat} {l : List Nd} {root : Int} {row : List Int}
theorem TkE.gk (E : TkE W q g A1 A2 A3 A4 c1 c2 c3 c4 l An cn root row Aw cw) {w : World} (hc : Chg noB W w) : w.cell? ⟨q, 0, none⟩ = some (.slice A1 g.terms.length c1) ∧ w.cell? ⟨q, 1, none⟩ = some (.slice A2 g.nons.length c2) ∧ w.cell? ⟨q, 2, none⟩ = some (.slice A3 g.levels.length c3) ∧ w.cell? ⟨q, 3, none⟩ = some (.int .i64 g.start) ∧ w.cell? ⟨q, 4, none⟩ = some (.slice A4 g.prods.length c4) :=
  ⟨hc.at E.k0 id, hc.at E.k1 id, hc.at E.k2 id, hc.at E.k3 id, hc.at E.k4 id⟩
theorem TkE.rg (E : TkE W q g A1 A2 A3 A4 c1 c2 c3 c4 l An cn root row Aw cw) {w : World} (hc : Chg noB W w) : rGram.atN w w.heap.size (.agg #[.slice A1 g.terms.length c1, .slice A2 g.nons.length c2, .slice A3 g.levels.length c3, .int .i64 g.start, .slice A4 g.prods.length c4]) g :=
  rGram_up (rGram_below E.hg (hc.below (Nat.le_refl _) fun _ _ => id)) hc.size
theorem TkE.rn (E : TkE W q g A1 A2 A3 A4 c1 c2 c3 c4 l An cn root row Aw cw) {w : World} (hc : Chg noB W w) : (rSlice rNd).at1 w w.heap.size (.slice An l.length cn) l :=
  Rep.up (Rep.below E.hn (hc.below (Nat.le_refl _) fun _ _ => id)) hc.size
theorem TkE.rr (E : TkE W q g A1 A2 A3 A4 c1 c2 c3 c4 l An cn root row Aw cw) {w : World} (hc : Chg noB W w) : (rSlice rInt).at1 w w.heap.size (.slice Aw row.length cw) row :=
  Rep.up (Rep.below E.hrow (hc.below (Nat.le_refl _) fun _ _ => id)) hc.size
/-- The nodes, one token turned, and what is below. -/
theorem tok_ask (E : TkE W q g A1 A2 A3 A4 c1 c2 c3 c4 l An cn root row Aw cw) {F : Fo} (hD : Deriv g l root row F) (hd : deriveB g l root row = true) {R : Ending → World → Prop} {C12 : Value → World → Prop} {w : World} {i : Nat} (hi : i < l.length) (hi40 : i < 40) (hc : Chg noB W w)
    {ca : Option Addr} {cc : Nat} (hcp : (l.getD i zN).2.2.1 < 8192 → (rSlice rNd).at1 w w.heap.size (.slice ca l.length cc) (turnT l i ((l.getD i zN).2.2.1 + 1)))
    (hgo : ∀ w', Chg noB W w' → C12 (.int .i64 ((i : Int) + 1)) w') :
    law20_TreeReplays.b19 R C12 (.slice An l.length cn) (.int .i64 root) (.slice Aw row.length cw) (.pointer (some ⟨q, 0, none⟩)) (.int .i64 i) (.slice ca l.length cc) (.bool (decide (i ∈ F.pre))) w := by
  have hN3 : l.length ≤ 3000000000000 := by have := E.hN; unfold maxBytes at this; omega
  have wi : IntKind.i64.wrap ((i : Int) + 1) = (i : Int) + 1 := IntWalk.i64_in _ (by omega)
  obtain ⟨bn, on, vk, eAn, hbn, x1, x2, x3, x4, hks, z1, z2, z3⟩ := nodes_at (E.rn hc) hi
  subst eAn
  have ei : l[i] = l.getD i zN := by rw [List.getD_eq_getElem?_getD, List.getElem?_eq_getElem hi]; rfl
  rw [ei] at x3
  obtain ⟨k0, k1, k2, k3, k4⟩ := E.gk hc
  have hfin : ∀ w', Chg noB W w' → law20_TreeReplays.b20 R C12 (.int .i64 i) (.bool false) w' := by
    intro w' h
    unfold law20_TreeReplays.b20
    simp -dsimp [go_sem]
    unfold law20_TreeReplays.b15
    simp -dsimp [go_sem, wi]
    exact hgo _ h
  unfold law20_TreeReplays.b19
  simp -dsimp [go_sem, hi, x3]
  refine SPL_intro (fun p1 => ?_) (fun p1 => ?_)
  · have p1' : (l.getD i zN).2.2.1 < 8192 := by rw [← ei]; simpa using p1
    have hcp := hcp p1'
    unfold law20_TreeReplays.b19_2
    simp -dsimp [go_sem, k0, k1, k2, k3, k4]
    refine CALL_of (Copy_ct (E.rg hc) (Nat.le_refl _) E.fit) ?_
    rintro v3 w3 ⟨hr3, hc3⟩
    unfold law20_TreeReplays.b19_1
    refine row_copy (E.rr (hc.trans hc3)) E.rowl fun a c w4 s4 => ?_
    have hc34 := s4.chg
    have hrw : (rSlice rInt).at1 w4 w4.heap.size (.slice a row.length c) row := by
      rw [flat_int] at s4
      exact int_rd s4 0 rfl (ints_in E.hrow)
    refine CALL_of (Derives_ct (l := turnT l i ((l.getD i zN).2.2.1 + 1)) (rGram_up (rGram_below hr3 (hc34.below (Nat.le_refl _) fun _ _ => id)) hc34.size) (Rep.up (Rep.below hcp ((hc3.trans hc34).below (Nat.le_refl _) fun _ _ => id)) (hc3.trans hc34).size) hrw (Nat.le_refl _) (by rw [turnT_len]; exact hN3) (fun x hx => ?_) E.hr) ?_
    · rcases List.mem_or_eq_of_mem_set hx with hx | rfl
      · exact E.hkd x hx
      · show (l.getD i zN).2.2.2.length * 8 ≤ maxBytes
        rw [← ei]; exact E.hkd _ (List.getElem_mem hi)
    · rintro _ w5 ⟨rfl, hc5⟩
      rw [hD.turned hd hi]
      simp -dsimp [go_sem]
      exact hfin _ (((hc.trans hc3).trans hc34).trans hc5)
  · exact hfin _ hc
theorem tok_below (E : TkE W q g A1 A2 A3 A4 c1 c2 c3 c4 l An cn root row Aw cw) {vs : List Nat} {R : Ending → World → Prop} {C12 : Value → World → Prop} {w wA : World} {i : Nat} {a : Option Addr} {c : Nat} {v1 : Value} (s : St noB wA w [rowC 3 1 a vs.length c (natV vs)]) (hi40 : i < 40) (hvs : vs.length ≤ 3000000000000)
    (hgo : ∀ w', Chg noB w w' → law20_TreeReplays.b19 R C12 (.slice An l.length cn) (.int .i64 root) (.slice Aw row.length cw) (.pointer (some ⟨q, 0, none⟩)) (.int .i64 i) v1 (.bool (decide (i ∈ vs))) w') :
    law20_TreeReplays.b21 R C12 (.slice An l.length cn) (.int .i64 root) (.slice Aw row.length cw) (.pointer (some ⟨q, 0, none⟩)) (.int .i64 i) v1 (.slice a vs.length c) (.bool false) w := by
  unfold law20_TreeReplays.b21
  refine law20_TreeReplays.l23_intro _ _ _ _ _ _ _ _ _ _ _ _ (fun y z w' => ∃ (k : Nat), y = .bool (decide (i ∈ vs.take k)) ∧ z = .int .i64 k ∧ k ≤ vs.length ∧ Chg noB w w') (fun _ z _ => vs.length - iv z) ⟨0, by simp, rfl, by omega, Chg.refl _ _⟩ ?_
  rintro _ _ w1 ⟨k, rfl, rfl, hk, hc1⟩ C hC
  have wk : IntKind.i64.wrap ((k : Int) + 1) = (k : Int) + 1 := IntWalk.i64_in _ (by omega)
  unfold law20_TreeReplays.b24
  simp -dsimp [go_sem]
  refine SPL_intro (fun p1 => ?_) (fun p1 => ?_) <;> simp at p1
  · have et : vs.take (k + 1) = vs.take k ++ [vs[k]] := List.take_succ_eq_append_getElem p1
    refine SPL_intro (fun p2 => ?_) (fun p2 => ?_)
    · have p2' : i ∈ vs.take k := by simpa using p2
      unfold law20_TreeReplays.b25
      simp -dsimp [go_sem, wk]
      exact hC _ _ _ ⟨k + 1, by rw [et, decide_eq_true (List.mem_append_left _ p2')], by simp, by omega, hc1⟩ (by simp [iv]; omega)
    · have p2' : i ∉ vs.take k := by simpa using p2
      obtain ⟨gb, rfl, cv, _⟩ := (s.old hc1).rowAt 0 rfl (j := k) (by simpa [natV] using p1)
      have ev : (natV vs)[k]'(by simpa [natV] using p1) = .int .i64 (vs[k] : Nat) := by simp [natV]
      rw [ev] at cv
      unfold law20_TreeReplays.b24_1
      simp -dsimp [go_sem, p1, cv]
      unfold law20_TreeReplays.b25
      simp -dsimp [go_sem, wk]
      refine hC _ _ _ ⟨k + 1, ?_, by simp, by omega, hc1⟩ (by simp [iv]; omega)
      congr 1
      rw [et]
      by_cases e : vs[k] = i
      · rw [decide_eq_true (by rw [← e]; exact List.mem_append_right _ (List.mem_singleton_self _)), e, beq_self_eq_true]
      · rw [decide_eq_false (fun h => (List.mem_append.1 h).elim p2' fun h => e (List.mem_singleton.1 h).symm), beq_eq_false_iff_ne]
        exact fun h => e (by exact_mod_cast h)
  · have hke : k = vs.length := by omega
    subst hke
    rw [List.take_length]
    exact hgo _ hc1
theorem tok_loop (E : TkE W q g A1 A2 A3 A4 c1 c2 c3 c4 l An cn root row Aw cw) {F : Fo} (hD : Deriv g l root row F) (hd : deriveB g l root row = true) {R : Ending → World → Prop} {w : World} (hc : Chg noB W w)
    (hgo : ∀ w', Chg noB W w' → law20_TreeReplays.b9 R w') :
    law20_TreeReplays.b10 R (.slice An l.length cn) (.int .i64 root) (.slice Aw row.length cw) (.pointer (some ⟨q, 0, none⟩)) w := by
  have hN3 : l.length ≤ 3000000000000 := by have := E.hN; unfold maxBytes at this; omega
  have hin := ndIn_of E.hn
  unfold law20_TreeReplays.b10
  refine law20_TreeReplays.l12_intro _ _ _ _ _ _ _ (fun y w' => ∃ (i : Nat), y = .int .i64 i ∧ i ≤ l.length ∧ Chg noB W w') (fun y _ => l.length - iv y) ⟨0, rfl, by omega, hc⟩ ?_
  rintro _ w1 ⟨i, rfl, hi, hc1⟩ C hC
  unfold law20_TreeReplays.b26
  simp -dsimp [go_sem]
  refine SPL_intro (fun p1 => ?_) (fun p1 => ?_) <;> simp at p1
  · simp -dsimp [go_sem]
    unfold law20_TreeReplays.b27
    refine SPL_intro (fun p2 => ?_) (fun p2 => ?_)
    · have p2' : i < 40 := by
        have : (i : Int) < 40 := by simpa using p2
        omega
      unfold law20_TreeReplays.b17
      refine CALL_of (refNdCopy_ct (E.rn hc1) (Nat.le_refl _) E.hN E.hkd) ?_
      rintro _ w2 ⟨ca, cc, vs, rfl, s2⟩
      unfold law20_TreeReplays.b17_2
      have hvs : vs.length = l.length := by
        obtain ⟨F1, ho, _⟩ := s2.get (k := 1) rfl
        have := ho.1; simpa using this
      have ez : (l.zip vs)[i]? = some (l[i], vs[i]'(by omega)) := by
        rw [List.getElem?_eq_getElem (by simp [hvs]; exact p1)]
        simp
      obtain ⟨F0, ho0, _⟩ := s2.get (k := 0) rfl
      obtain ⟨gb, rfl, hcell, hfr, _, _⟩ := row_elem ho0 (fun _ _ => rfl) (by decide) ez
      have y2 := hcell 2 _ rfl
      have f2 := hfr (i * 4 + 2)
      have s3 := s2.setRow 0 rfl (i * 4 + 2) (.int .i64 (IntKind.i64.wrap (l[i].2.2.1 + 1)))
      have ei : l[i] = l.getD i zN := by rw [List.getD_eq_getElem?_getD, List.getElem?_eq_getElem p1]; rfl
      obtain ⟨T, hT⟩ : ∃ T, IntKind.i64.wrap (l[i].2.2.1 + 1) = T := ⟨_, rfl⟩
      have eset : ((l.zip vs).flatMap cNd).set (i * 4 + 2) (.int .i64 T) = ((turnT l i T).zip vs).flatMap cNd := by
        unfold turnT
        rw [zip_set (List.getElem?_eq_getElem (show i < vs.length by omega))]
        exact flat_set (fun _ _ => rfl) ez (by omega) (by rw [← ei]; rfl)
      have ekid : (l.map fun x => x.2.2.2.flatMap cNdI) = (turnT l i T).map fun x => x.2.2.2.flatMap cNdI := by
        unfold turnT
        rw [List.map_set]
        show _ = (l.map fun x => x.2.2.2.flatMap cNdI).set i ((l.getD i zN).2.2.2.flatMap cNdI)
        rw [← ei]
        have h9 : i < (l.map fun x => x.2.2.2.flatMap cNdI).length := by simpa using p1
        have := List.set_getElem_self h9
        rw [List.getElem_map] at this
        exact this.symm
      rw [hT, eset] at s3
      simp -dsimp [go_sem, p1, y2, f2, hT]
      have hc3 := hc1.trans s3.chg
      clear y2 f2 hfr hcell ho0
      generalize w2.setCell ⟨gb, i * 4 + 2, none⟩ (.int .i64 T) = w3 at s3 hc3 ⊢
      refine CALL_of (Walk_ct (E.rn hc3) (Nat.le_refl _) hN3 E.hr) ?_
      intro v4 w4 hp
      rw [hD.walk] at hp
      obtain ⟨a, c, rfl, s4⟩ := hp
      have s34 := s3.old s4.chg
      unfold law20_TreeReplays.b17_1
      simp -dsimp [go_sem]
      refine tok_below E s4 p2' (Nat.le_trans hD.len hN3) fun w5 hc5 => ?_
      refine tok_ask E hD hd p1 p2' ((hc3.trans s4.chg).trans hc5) (fun ht => ?_) fun w6 h6 => hC _ _ ⟨i + 1, by simp, by omega, h6⟩ (by simp [iv]; omega)
      have hTe : T = (l.getD i zN).2.2.1 + 1 := by
        rw [← hT, ei]
        have := (hin _ (List.getElem_mem p1)).2.2.1
        rw [ei] at this
        unfold inI64 at this
        exact IntWalk.i64_in _ (by omega)
      rw [← hTe]
      have hti : ndIn (turnT l i T) := by
        intro x hx
        rcases List.mem_or_eq_of_mem_set hx with hx | rfl
        · exact hin x hx
        · have := hin _ (List.getElem_mem p1)
          rw [ei] at this
          refine ⟨this.1, this.2.1, ?_, this.2.2.2⟩
          have := this.2.2.1
          unfold inI64 at this ⊢
          show -9223372036854775808 ≤ T ∧ T ≤ 9223372036854775807
          rw [hTe]; omega
      have s5 : St noB w1 w5 [rowC 61 4 (some ⟨gb, 0, none⟩) l.length cc (((turnT l i T).zip vs).flatMap cNd), rowsC 3 1 vs (l.map fun x => x.2.2.2.flatMap cNdI)] := s34.old hc5
      rw [ekid] at s5
      have elen : l.length = (turnT l i T).length := (turnT_len l i T).symm
      have := ndC_at (l := turnT l i T) (vs := vs) (a := some ⟨gb, 0, none⟩) (c := cc) (L := [rowC 61 4 (some ⟨gb, 0, none⟩) (turnT l i T).length cc (((turnT l i T).zip vs).flatMap cNd), rowsC 3 1 vs ((turnT l i T).map fun x => x.2.2.2.flatMap cNdI)]) (by rw [← elen]; exact s5) 0 1 rfl rfl hti
      rw [← elen] at this
      exact this
    · exact hgo _ hc1
  · unfold law20_TreeReplays.b27
    simp -dsimp [go_sem]
    exact hgo _ hc1
end
end Go.Proofs.Ytkacbjhiobnbfaa

/-
  The document's Frontier and Rightmost.
-/
namespace Go.Proofs.Ytkacbjhiobnbfaa
open Go.Px Go.Px.Scan Go.RowKit
set_option maxHeartbeats 1000000
set_option linter.unusedSimpArgs false
set_option linter.unusedVariables false
set_option maxRecDepth 100000
attribute [-go_sem] Builtin.append_

end Go.Proofs.Ytkacbjhiobnbfaa

/-
  What is looked at, one after the other.
-/
namespace Go.Px.Scan
open Go.Px Go.RowKit
end Go.Px.Scan

/-
  The document's Derives.
-/
namespace Go.Proofs.Ytkacbjhiobnbfaa
open Go.Px Go.Px.Scan Go.RowKit
set_option maxHeartbeats 1000000
set_option linter.unusedSimpArgs false
set_option linter.unusedVariables false
set_option maxRecDepth 100000
attribute [-go_sem] Builtin.append_

end Go.Proofs.Ytkacbjhiobnbfaa

/-
  TreeReads.
-/
namespace Go.Px.Scan
open Go.Px Go.RowKit
theorem nd_get {l : List Nd} (h : ndIn l) (n : Nat) : inI64 (l.getD n zN).1 ∧ inI64 (l.getD n zN).2.1 := by
  by_cases hn : n < l.length
  · have := h _ (List.getElem_mem hn)
    simp only [List.getD_eq_getElem?_getD, List.getElem?_eq_getElem hn, Option.getD_some]
    exact ⟨this.1, this.2.1⟩
  · have e : l.getD n zN = zN := by simp [Nat.le_of_not_lt hn]
    rw [e]; exact ⟨by unfold inI64; decide, by unfold inI64; decide⟩
theorem rm_in {l : List Nd} (h : ndIn l) {root : Int} {rt : Bool} {r : List Int} (hl : lookP l rt (rmV l) [] root = some r) : ∀ x ∈ r, inI64 x := by
  rw [lookP_walk] at hl
  cases hw : walkP l rt root with
  | none => rw [hw] at hl; cases hl
  | some s =>
    rw [hw] at hl
    refine looks_inv (V := rmV l) (fun s => ∀ x ∈ s, inI64 x) (fun s n s' h0 hv => ?_) s [] r (by simp) hl
    unfold rmV at hv
    injection hv with hv
    subst hv
    split
    · intro x hx
      rcases List.mem_append.1 hx with hx | hx
      · exact h0 x hx
      · rw [List.mem_singleton] at hx; subst hx; exact (nd_get h n).2
    · exact h0
end Go.Px.Scan
namespace Go.Proofs.Ytkacbjhiobnbfaa
open Go.Px Go.Px.Scan Go.RowKit
set_option maxHeartbeats 1000000
set_option linter.unusedSimpArgs false
set_option linter.unusedVariables false
set_option maxRecDepth 100000

end Go.Proofs.Ytkacbjhiobnbfaa
