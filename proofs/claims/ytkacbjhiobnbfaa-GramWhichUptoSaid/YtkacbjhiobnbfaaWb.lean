/-
  gram.Copy.
-/
import Derived.Test.YtkacbjhiobnbfaaPa
import Derived.Test.YtkacbjhiobnbfaaMh
import Derived.Test.YtkacbjhiobnbfaaMd
namespace Go.Px
open Go.RowKit
theorem row_clip {w : World} {F : Nat → Prop} {e : TypeId} {size : Nat} {a : Option Addr} {n c : Nat} {xs : List Value} (h : (rowC e size a n c xs).ok w F) : n ≤ c ∧ (a = none → n = 0 ∧ c = 0) := by
  refine ⟨(row_size h).2.1, fun ha => ?_⟩
  subst ha
  rcases h.1.2 with ⟨h1, h2⟩ | ⟨g, cap, cur, hv, _⟩
  · injection h1 with _ h1 h3; exact ⟨h2, h3⟩
  · injection hv with hv; cases hv
section
variable {G : Nat → Prop} {W w : World} {L : List Ch}
theorem St.clip (h : St G W w L) (k : Nat) {e : TypeId} {size : Nat} {a : Option Addr} {n c : Nat} {xs : List Value} (hk : L[k]? = some (rowC e size a n c xs)) : n ≤ c ∧ (a = none → n = 0 ∧ c = 0) := by
  obtain ⟨F, ho, _⟩ := h.get hk
  exact row_clip ho
end
end Go.Px
namespace Go.Proofs.Ytkacbjhiobnbfaa
open Go.Px Go.Px.Scan Go.RowKit
set_option maxHeartbeats 1000000
set_option linter.unusedSimpArgs false
set_option linter.unusedVariables false
set_option maxRecDepth 100000
attribute [-go_sem] Builtin.append_ gram_Copy.b3 gram_Copy.b4 gram_Copy.b7_1 gram_Copy.b7_2

def xTerm (t : ByteArray × Int) : List Value := [.string t.1, .int .i64 t.2]
def xStr (s : ByteArray) : List Value := [.string s]
def xInt (x : Int) : List Value := [.int .i64 x]
def xPr (p : (Int × List Int × Int) × Value) : List Value := [.int .i64 p.1.1, p.2, .int .i64 p.1.2.2]
theorem xInt_flat (l : List Int) : l.flatMap xInt = l.map (.int .i64 ·) := by induction l with
  | nil => rfl
  | cons x r ih => rw [List.flatMap_cons, ih]; rfl
theorem bCopy (A1 A2 A3 : Option Addr) (n1 c1 n2 c2 n3 c3 : Nat) (x : Int) (w : World) : (Instr.build 27 #[(0, .slice A1 n1 c1), (1, .slice A2 n2 c2), (2, .slice A3 n3 c3), (3, .int .i64 x)]).run Try.prog w = .ok (.agg #[.slice A1 n1 c1, .slice A2 n2 c2, .slice A3 n3 c3, .int .i64 x, .slice none 0 0]) w := by simp [go_sem]
attribute [go_sem ↓] bCopy
/-- A copy, in pieces. -/
def CopC (g : Gr) (At An Al Ap : Option Addr) (cp : Nat) (vs : List Value) : List Ch :=
  [runC At (g.terms.flatMap xTerm), runC An (g.nons.flatMap xStr), runC Al (g.levels.flatMap xInt), rowC 47 3 Ap g.prods.length cp ((g.prods.zip vs).flatMap xPr), runsC vs (g.prods.map fun p => p.2.1.flatMap xInt)]
structure GFit (g : Gr) : Prop where
  terms : g.terms.length * 24 ≤ maxBytes
  nons : g.nons.length * 16 ≤ maxBytes
  levels : g.levels.length * 8 ≤ maxBytes
  prods : g.prods.length * 40 ≤ maxBytes
  right : ∀ p ∈ g.prods, p.2.1.length * 8 ≤ maxBytes

theorem copy_b4 {w w1 : World} {R : EP} {B q rb ob : Nat} {g : Gr} {A1 A2 A3 A4 : Option Addr} {c1 c2 c3 c4 : Nat} {At An Al : Option Addr} {ct cn cl : Nat} (h4 : (rSlice rPr).at1 w B (.slice A4 g.prods.length c4) g.prods) (hB : B ≤ w.heap.size) (hfit : GFit g)
    (s : St noB w w1 [boxC q 27 [.slice A1 g.terms.length c1, .slice A2 g.nons.length c2, .slice A3 g.levels.length c3, .int .i64 g.start, .slice A4 g.prods.length c4], boxC rb 27 [.slice none 0 0, .slice none 0 0, .slice none 0 0, .int .i64 0, .slice none 0 0], boxC ob 27 [.slice At g.terms.length g.terms.length, .slice An g.nons.length g.nons.length, .slice Al g.levels.length g.levels.length, .int .i64 g.start, .slice none 0 0],
      rowC 106 2 At g.terms.length ct (g.terms.flatMap xTerm), rowC 9 1 An g.nons.length cn (g.nons.flatMap xStr), rowC 3 1 Al g.levels.length cl (g.levels.flatMap xInt)])
    (hR : ∀ w' Ap cp vs, St noB w w' (CopC g At An Al Ap cp vs) → R (.returned (.agg #[.slice At g.terms.length g.terms.length, .slice An g.nons.length g.nons.length, .slice Al g.levels.length g.levels.length, .int .i64 g.start, .slice Ap g.prods.length cp])) w') :
    gram_Copy.b4 R (.pointer (some ⟨q, 0, none⟩)) (.pointer (some ⟨rb, 0, none⟩)) (.pointer (some ⟨ob, 0, none⟩)) w1 := by
  obtain ⟨_, _, e4, hl4, hm4, _⟩ := slice_form h4
  injection e4 with e4 e5 e6; subst e4 e6
  have s0 := (((s.turn (k := 3) rfl fun F ho => run_of_row ho).turn (k := 4) rfl fun F ho => run_of_row ho).turn (k := 5) rfl fun F ho => run_of_row ho)
  have s1 := (s0.nilRow 47 3).push (c := runsC [] []) (runsC_nil _ _)
  have y1 := s1.box 0 rfl
  simp [boxAt] at y1
  unfold gram_Copy.b4
  simp -dsimp [go_sem, y1]
  refine gram_Copy.l6_intro _ _ _ _ _ _ _ (fun y w' => ∃ (k : Nat) (Ap : Option Addr) (cp : Nat) (vs : List Value), y = .int .i64 k ∧ k ≤ g.prods.length ∧ St noB w w' [boxC q 27 [.slice A1 g.terms.length c1, .slice A2 g.nons.length c2, .slice A3 g.levels.length c3, .int .i64 g.start, .slice A4 g.prods.length c4], boxC rb 27 [.slice none 0 0, .slice none 0 0, .slice none 0 0, .int .i64 0, .slice none 0 0], boxC ob 27 [.slice At g.terms.length g.terms.length, .slice An g.nons.length g.nons.length, .slice Al g.levels.length g.levels.length, .int .i64 g.start, .slice Ap k cp],
      runC At (g.terms.flatMap xTerm), runC An (g.nons.flatMap xStr), runC Al (g.levels.flatMap xInt), rowC 47 3 Ap k cp (((g.prods.take k).zip vs).flatMap xPr), runsC vs ((g.prods.take k).map fun p => p.2.1.flatMap xInt)]) (fun y _ => g.prods.length - iv y) ⟨0, none, 0, [], rfl, Nat.zero_le _, s1⟩ ?_
  rintro _ w2 ⟨k, Ap, cp, vs, rfl, hk, s2⟩ C hC
  have hvs : vs.length = k := by
    obtain ⟨F, ho, _⟩ := s2.get (k := 7) rfl
    have := ho.1; simp at this; omega
  simp -dsimp [go_sem]
  refine SPL_intro (fun p1 => ?_) (fun p1 => ?_) <;> simp at p1
  · obtain ⟨bp, op, vr, ep, hbp, x1, x2, x3, hr, zl, zv⟩ := prods_at h4 p1
    subst ep
    have hbpw : bp < w.heap.size := by omega
    have x1 := (s2.chg.cell (p := ⟨bp, op + k * 3, none⟩) hbpw id).trans x1
    have x2 := (s2.chg.cell (p := ⟨bp, op + k * 3 + 1, none⟩) hbpw id).trans x2
    have x3 := (s2.chg.cell (p := ⟨bp, op + k * 3 + 2, none⟩) hbpw id).trans x3
    obtain ⟨Ar, cr, rfl, hr1, hr2, _⟩ := slice_form hr
    have htk : g.prods.take (k + 1) = g.prods.take k ++ [g.prods[k]] := List.take_succ_eq_append_getElem p1
    have g5' := hfit.right _ (List.getElem_mem p1)
    have g4' := hfit.prods
    have wk := wrap_succ p1 (by omega)
    obtain ⟨p, hp⟩ : ∃ p, g.prods[k] = p := ⟨_, rfl⟩
    have hp' : g.prods[k].2.1 = p.2.1 := by rw [hp]
    rw [hp] at x1 x2 x3 hr zl zv hr1 htk g5'
    have s3 := s2.alloc #[.int .i64 p.1, .slice Ar p.2.1.length cr, .int .i64 p.2.2] 47
    unfold gram_Copy.b7_2
    simp -dsimp [go_sem, p1, x1, x2, x3, hp']
    generalize w2.alloc (.cells #[.int .i64 p.1, .slice Ar p.2.1.length cr, .int .i64 p.2.2] 47) = w3 at s3 ⊢
    generalize w2.heap.size = pb at s3 ⊢
    refine CALL_of (CloneI_ct (Rep.below hr (s3.chg.below hB fun _ _ => id)) (by have := s3.chg.size; omega) g5') ?_
    rintro v4 w4 ⟨hown, hc4⟩
    obtain ⟨ka, kc, rfl⟩ : ∃ a c, v4 = .slice a p.2.1.length c := by
      rcases hown.2 with ⟨e1, e2⟩ | ⟨g, cap, cur, hv, _⟩
      · exact ⟨none, 0, by rw [e1, e2]⟩
      · exact ⟨_, _, hv⟩
    have s4 := s3.seq (St.ofRow hown hc4)
    rw [← xInt_flat] at s4
    have hcl := s4.clip 9 rfl
    refine CALL_of (ClipI_ct hcl.1 hcl.2) ?_
    rintro _ _ ⟨rfl, rfl⟩
    have hxl : (p.2.1.flatMap xInt).length = p.2.1.length := by rw [xInt_flat]; simp
    have s5 := s4.turn (k := 9) rfl fun F ho => run_of_row ho
    have hkm : kc ≤ maxLen := (s4.rowSize 9 rfl).2.2
    have s6 := s5.set 8 rfl 1 (.slice ka p.2.1.length p.2.1.length)
    have y5 := s5.box 8 rfl
    have z5 := s5.box 2 rfl
    simp [boxAt] at y5 z5
    have y6 := s6.box 8 rfl
    have z6 := s6.box 2 rfl
    simp [boxAt] at y6 z6
    unfold gram_Copy.b7_1
    simp -dsimp [go_sem, y5, y6, z6]
    have hsz6 : (w4.setCell ⟨pb, 1, none⟩ (.slice ka p.2.1.length p.2.1.length)).heap.size = w4.heap.size := by simp
    rw [← hsz6]
    clear hsz6
    generalize w4.setCell ⟨pb, 1, none⟩ (.slice ka p.2.1.length p.2.1.length) = w6 at s6 y6 z6 ⊢
    refine s6.append1 6 rfl uProds iProd rfl (by omega) (news := [.int .i64 p.1, .slice ka p.2.1.length p.2.1.length, .int .i64 p.2.2]) rfl (by simp [Value.oneCell']) (by omega) (by omega) ?_
    intro g' cap w7 s7
    have y7 := s7.box 2 rfl
    simp [boxAt] at y7
    have s8 := s7.set 2 rfl 4 (.slice (some ⟨g', 0, none⟩) (k + 1) cap)
    simp -dsimp [go_sem, y7, wk]
    have s9 := (s8.merge (j := 9) (k := 7) rfl rfl (by omega) (e := runsC (vs ++ [.slice ka p.2.1.length p.2.1.length]) (((g.prods.take k).map fun p => p.2.1.flatMap xInt) ++ [p.2.1.flatMap xInt])) fun F F' h1 h2 => by
      have := runsC_snoc (c := p.2.1.length) h1 (by rw [hxl]; exact Nat.le_refl _) (by omega) h2
      rw [hxl] at this
      exact this).take 8
    have e2 : (((g.prods.take (k + 1)).zip (vs ++ [.slice ka p.2.1.length p.2.1.length])).flatMap xPr) = (((g.prods.take k).zip vs).flatMap xPr) ++ [.int .i64 p.1, .slice ka p.2.1.length p.2.1.length, .int .i64 p.2.2] := by
      rw [htk, List.zip_append (by simp [hvs]; omega), List.flatMap_append]
      simp [xPr]
    have e3 : ((g.prods.take (k + 1)).map fun p => p.2.1.flatMap xInt) = ((g.prods.take k).map fun p => p.2.1.flatMap xInt) ++ [p.2.1.flatMap xInt] := by rw [htk, List.map_append]; rfl
    refine hC _ _ ⟨k + 1, some ⟨g', 0, none⟩, cap, vs ++ [.slice ka p.2.1.length p.2.1.length], by simp, by omega, ?_⟩ (by simp [iv]; omega)
    rw [e2, e3]
    exact s9
  · have hkl : k = g.prods.length := by omega
    subst hkl
    have y2 := s2.box 2 rfl
    have z2 := s2.box 1 rfl
    simp [boxAt] at y2 z2
    have s3 := ((((s2.set 1 rfl 0 (.slice At g.terms.length g.terms.length)).set 1 rfl 1 (.slice An g.nons.length g.nons.length)).set 1 rfl 2 (.slice Al g.levels.length g.levels.length)).set 1 rfl 3 (.int .i64 g.start)).set 1 rfl 4 (.slice Ap g.prods.length cp)
    have y3 := s3.box 1 rfl
    simp [boxAt] at y3
    rw [List.take_length] at s3
    unfold gram_Copy.b3
    simp -dsimp [go_sem, y2, z2, y3]
    exact hR _ Ap cp vs (s3.pick [3, 4, 5, 6, 7] (by decide) rfl)

theorem Copy_ct {w : World} {B : Nat} {vg : Value} {g : Gr} (h : rGram.atN w B vg g) (hB : B ≤ w.heap.size) (hfit : GFit g) : Ct Try.prog gram_Copy.id #[vg] w fun v w' => ∃ At An Al Ap cp vs, v = .agg #[.slice At g.terms.length g.terms.length, .slice An g.nons.length g.nons.length, .slice Al g.levels.length g.levels.length, .int .i64 g.start, .slice Ap g.prods.length cp] ∧ St noB w w' (CopC g At An Al Ap cp vs) := by
  refine gram_Copy.ct fun R hR => ?_
  obtain ⟨A1, c1, A2, c2, A3, c3, A4, c4, rfl, h1, h2, h3, hst, h4, k1, k2, k3, k4⟩ := (rGram_open h).ex
  have hR2 : ∀ w' At An Al Ap cp vs, St noB w w' (CopC g At An Al Ap cp vs) → R (.returned (.agg #[.slice At g.terms.length g.terms.length, .slice An g.nons.length g.nons.length, .slice Al g.levels.length g.levels.length, .int .i64 g.start, .slice Ap g.prods.length cp])) w' := fun w' At An Al Ap cp vs hs => hR _ _ ⟨At, An, Al, Ap, cp, vs, rfl, hs⟩
  clear hR
  have s0 := ((St.refl noB w).alloc #[.slice A1 g.terms.length c1, .slice A2 g.nons.length c2, .slice A3 g.levels.length c3, .int .i64 g.start, .slice A4 g.prods.length c4] 27).alloc #[.slice none 0 0, .slice none 0 0, .slice none 0 0, .int .i64 0, .slice none 0 0] 27
  have y0 := s0.box 0 rfl
  simp only [boxAt] at y0
  obtain ⟨⟨a0, a1, a2, a3, a4, _⟩, _⟩ := y0
  have bl : ∀ {w'}, Chg noB w w' → Below B w w' := fun hc => hc.below hB fun _ _ => id
  have hsz : (w.alloc (.cells #[.slice A1 g.terms.length c1, .slice A2 g.nons.length c2, .slice A3 g.levels.length c3, .int .i64 g.start, .slice A4 g.prods.length c4] 27)).heap.size = w.heap.size + 1 := by simp
  unfold gram_Copy.run gram_Copy.b1
  simp -dsimp [go_sem, a0, a1, a2, a3]
  rw [hsz] at s0
  have s1 := s0.old (Chg.refl noB _).drew
  rw [show (((w.alloc (.cells #[.slice A1 g.terms.length c1, .slice A2 g.nons.length c2, .slice A3 g.levels.length c3, .int .i64 g.start, .slice A4 g.prods.length c4] 27)).alloc (.cells #[.slice none 0 0, .slice none 0 0, .slice none 0 0, .int .i64 0, .slice none 0 0] 27)).alloc (.cells #[.slice none 0 0, .slice none 0 0, .slice none 0 0, .int .i64 0, .slice none 0 0] 27)).drew = (((w.alloc (.cells #[.slice A1 g.terms.length c1, .slice A2 g.nons.length c2, .slice A3 g.levels.length c3, .int .i64 g.start, .slice A4 g.prods.length c4] 27)).alloc (.cells #[.slice none 0 0, .slice none 0 0, .slice none 0 0, .int .i64 0, .slice none 0 0] 27)).drew).alloc (.cells #[.slice none 0 0, .slice none 0 0, .slice none 0 0, .int .i64 0, .slice none 0 0] 27) from rfl]
  have hz2 : (((w.alloc (.cells #[.slice A1 g.terms.length c1, .slice A2 g.nons.length c2, .slice A3 g.levels.length c3, .int .i64 g.start, .slice A4 g.prods.length c4] 27)).alloc (.cells #[.slice none 0 0, .slice none 0 0, .slice none 0 0, .int .i64 0, .slice none 0 0] 27)).drew).heap.size = w.heap.size + 1 + 1 := by simp
  clear a0 a1 a2 a3 a4 hsz
  generalize (((w.alloc (.cells #[.slice A1 g.terms.length c1, .slice A2 g.nons.length c2, .slice A3 g.levels.length c3, .int .i64 g.start, .slice A4 g.prods.length c4] 27)).alloc (.cells #[.slice none 0 0, .slice none 0 0, .slice none 0 0, .int .i64 0, .slice none 0 0] 27)).drew) = w1 at s1 hz2 ⊢
  generalize w.heap.size = q at s1 hz2 ⊢
  have s1 : St noB w w1 [boxC q 27 [.slice A1 g.terms.length c1, .slice A2 g.nons.length c2, .slice A3 g.levels.length c3, .int .i64 g.start, .slice A4 g.prods.length c4], boxC (q + 1) 27 [.slice none 0 0, .slice none 0 0, .slice none 0 0, .int .i64 0, .slice none 0 0]] := s1
  refine ⟨?_, ?_⟩
  · skip
    refine CALL_of (CloneT_ct (Rep.below h1 (bl s1.chg)) (by have := s1.chg.size; omega) hfit.terms) ?_
    rintro _ w2 ⟨aT, cT, rfl, sN⟩
    have s2 := s1.seq sN
    have y2 := s2.box 0 rfl
    simp [boxAt] at y2
    simp -dsimp [go_sem, y2]
    refine ⟨?_, ?_⟩
    · skip
      refine CALL_of (ClipT_ct (s2.clip 2 rfl).1 (s2.clip 2 rfl).2) ?_
      rintro _ _ ⟨rfl, rfl⟩
      simp -dsimp [go_sem, y2]
      refine ⟨?_, ?_⟩
      · skip
        refine CALL_of (CloneS_ct (Rep.below h2 (bl s2.chg)) (by have := s2.chg.size; omega) hfit.nons) ?_
        rintro _ w3 ⟨aS, cS, rfl, sN⟩
        have s3 := s2.seq sN
        have y3 := s3.box 0 rfl
        simp [boxAt] at y3
        simp -dsimp [go_sem, y3]
        refine ⟨?_, ?_⟩
        · skip
          refine CALL_of (ClipS_ct (s3.clip 3 rfl).1 (s3.clip 3 rfl).2) ?_
          rintro _ _ ⟨rfl, rfl⟩
          simp -dsimp [go_sem, y3]
          refine ⟨?_, ?_⟩
          · skip
            refine CALL_of (CloneI_ct (Rep.below h3 (bl s3.chg)) (by have := s3.chg.size; omega) hfit.levels) ?_
            rintro v4 w4 ⟨hown, hcI⟩
            obtain ⟨aI, cI, rfl⟩ : ∃ a c, v4 = .slice a g.levels.length c := by
              rcases hown.2 with ⟨e1, e2⟩ | ⟨g, cap, cur, hv, _⟩
              · exact ⟨none, 0, by rw [e1, e2]⟩
              · exact ⟨_, _, hv⟩
            have s4 := s3.seq (St.ofRow hown hcI)
            rw [← xInt_flat] at s4
            have y4 := s4.box 0 rfl
            simp [boxAt] at y4
            simp -dsimp [go_sem, y4]
            refine ⟨?_, ?_⟩
            · skip
              refine CALL_of (ClipI_ct (s4.clip 4 rfl).1 (s4.clip 4 rfl).2) ?_
              rintro _ _ ⟨rfl, rfl⟩
              obtain ⟨ob, hob⟩ : ∃ ob, w4.heap.size = ob := ⟨_, rfl⟩
              have s5 := s4.alloc #[.slice aT g.terms.length g.terms.length, .slice aS g.nons.length g.nons.length, .slice aI g.levels.length g.levels.length, .int .i64 g.start, .slice none 0 0] 27
              rw [hob] at s5
              have u4 := (s4.alloc #[.slice none 0 0, .slice none 0 0, .slice none 0 0, .int .i64 0, .slice none 0 0] 27).box 0 rfl
              simp only [boxAt] at u4
              have u4 := u4.1.2.2.2.1
              simp -dsimp [go_sem, y4, hob, u4]
              exact copy_b4 h4 hB hfit (s5.pick [0, 1, 5, 2, 3, 4] (by decide) rfl) fun w' Ap cp vs hs => hR2 w' _ _ _ Ap cp vs hs
            · obtain ⟨ob, hob⟩ : ∃ ob, w4.heap.size = ob := ⟨_, rfl⟩
              have s5 := s4.alloc #[.slice none 0 0, .slice none 0 0, .slice none 0 0, .int .i64 0, .slice none 0 0] 27
              have u4 := s5.box 0 rfl
              simp only [boxAt] at u4
              obtain ⟨⟨u0, u1, u2, u3, _⟩, _⟩ := u4
              rw [hob] at s5
              try simp -dsimp [go_sem, u0, u1, u2, u3]
              first | rw [hob] | rw [← hz2, hob]
              clear u0 u1 u2 u3
              generalize w4.alloc (.cells #[.slice none 0 0, .slice none 0 0, .slice none 0 0, .int .i64 0, .slice none 0 0] 27) = w5 at s5 ⊢
              have y5 := s5.box 0 rfl
              simp [boxAt] at y5
              refine CALL_of (ClipI_ct (s5.clip 4 rfl).1 (s5.clip 4 rfl).2) ?_
              rintro _ _ ⟨rfl, rfl⟩
              simp -dsimp [go_sem, y5]
              have z5 := s5.box 5 rfl
              simp [boxAt] at z5
              have t5 := ((((s5.set 5 rfl 0 (.slice aT g.terms.length g.terms.length)).set 5 rfl 1 (.slice aS g.nons.length g.nons.length)).set 5 rfl 2 (.slice aI g.levels.length g.levels.length)).set 5 rfl 3 (.int .i64 g.start)).set 5 rfl 4 (.slice none 0 0)
              simp -dsimp [go_sem, z5]
              exact copy_b4 h4 hB hfit (t5.pick [0, 1, 5, 2, 3, 4] (by decide) rfl) fun w' Ap cp vs hs => hR2 w' _ _ _ Ap cp vs hs
          · obtain ⟨ob, hob⟩ : ∃ ob, w3.heap.size = ob := ⟨_, rfl⟩
            have s4 := s3.alloc #[.slice none 0 0, .slice none 0 0, .slice none 0 0, .int .i64 0, .slice none 0 0] 27
            have u3 := s4.box 0 rfl
            simp only [boxAt] at u3
            obtain ⟨⟨u0, u1, u2, u3, _⟩, _⟩ := u3
            rw [hob] at s4
            try simp -dsimp [go_sem, u0, u1, u2, u3]
            first | rw [hob] | rw [← hz2, hob]
            clear u0 u1 u2 u3
            generalize w3.alloc (.cells #[.slice none 0 0, .slice none 0 0, .slice none 0 0, .int .i64 0, .slice none 0 0] 27) = w4 at s4 ⊢
            have y4 := s4.box 0 rfl
            simp [boxAt] at y4
            refine CALL_of (CloneI_ct (Rep.below h3 (bl s4.chg)) (by have := s4.chg.size; omega) hfit.levels) ?_
            rintro v5 w5 ⟨hown, hcI⟩
            obtain ⟨aI, cI, rfl⟩ : ∃ a c, v5 = .slice a g.levels.length c := by
              rcases hown.2 with ⟨e1, e2⟩ | ⟨g, cap, cur, hv, _⟩
              · exact ⟨none, 0, by rw [e1, e2]⟩
              · exact ⟨_, _, hv⟩
            have s5 := s4.seq (St.ofRow hown hcI)
            rw [← xInt_flat] at s5
            have y5 := s5.box 0 rfl
            simp [boxAt] at y5
            simp -dsimp [go_sem, y5]
            refine CALL_of (ClipI_ct (s5.clip 5 rfl).1 (s5.clip 5 rfl).2) ?_
            rintro _ _ ⟨rfl, rfl⟩
            simp -dsimp [go_sem, y5]
            have z5 := s5.box 4 rfl
            simp [boxAt] at z5
            have t5 := ((((s5.set 4 rfl 0 (.slice aT g.terms.length g.terms.length)).set 4 rfl 1 (.slice aS g.nons.length g.nons.length)).set 4 rfl 2 (.slice aI g.levels.length g.levels.length)).set 4 rfl 3 (.int .i64 g.start)).set 4 rfl 4 (.slice none 0 0)
            simp -dsimp [go_sem, z5]
            exact copy_b4 h4 hB hfit (t5.pick [0, 1, 4, 2, 3, 5] (by decide) rfl) fun w' Ap cp vs hs => hR2 w' _ _ _ Ap cp vs hs
        · obtain ⟨ob, hob⟩ : ∃ ob, w3.heap.size = ob := ⟨_, rfl⟩
          have s4 := s3.alloc #[.slice none 0 0, .slice none 0 0, .slice none 0 0, .int .i64 0, .slice none 0 0] 27
          have u3 := s4.box 0 rfl
          simp only [boxAt] at u3
          obtain ⟨⟨u0, u1, u2, u3, _⟩, _⟩ := u3
          rw [hob] at s4
          try simp -dsimp [go_sem, u0, u1, u2, u3]
          first | rw [hob] | rw [← hz2, hob]
          clear u0 u1 u2 u3
          generalize w3.alloc (.cells #[.slice none 0 0, .slice none 0 0, .slice none 0 0, .int .i64 0, .slice none 0 0] 27) = w4 at s4 ⊢
          have y4 := s4.box 0 rfl
          simp [boxAt] at y4
          refine CALL_of (ClipS_ct (s4.clip 3 rfl).1 (s4.clip 3 rfl).2) ?_
          rintro _ _ ⟨rfl, rfl⟩
          simp -dsimp [go_sem, y4]
          refine CALL_of (CloneI_ct (Rep.below h3 (bl s4.chg)) (by have := s4.chg.size; omega) hfit.levels) ?_
          rintro v5 w5 ⟨hown, hcI⟩
          obtain ⟨aI, cI, rfl⟩ : ∃ a c, v5 = .slice a g.levels.length c := by
            rcases hown.2 with ⟨e1, e2⟩ | ⟨g, cap, cur, hv, _⟩
            · exact ⟨none, 0, by rw [e1, e2]⟩
            · exact ⟨_, _, hv⟩
          have s5 := s4.seq (St.ofRow hown hcI)
          rw [← xInt_flat] at s5
          have y5 := s5.box 0 rfl
          simp [boxAt] at y5
          simp -dsimp [go_sem, y5]
          refine CALL_of (ClipI_ct (s5.clip 5 rfl).1 (s5.clip 5 rfl).2) ?_
          rintro _ _ ⟨rfl, rfl⟩
          simp -dsimp [go_sem, y5]
          have z5 := s5.box 4 rfl
          simp [boxAt] at z5
          have t5 := ((((s5.set 4 rfl 0 (.slice aT g.terms.length g.terms.length)).set 4 rfl 1 (.slice aS g.nons.length g.nons.length)).set 4 rfl 2 (.slice aI g.levels.length g.levels.length)).set 4 rfl 3 (.int .i64 g.start)).set 4 rfl 4 (.slice none 0 0)
          simp -dsimp [go_sem, z5]
          exact copy_b4 h4 hB hfit (t5.pick [0, 1, 4, 2, 3, 5] (by decide) rfl) fun w' Ap cp vs hs => hR2 w' _ _ _ Ap cp vs hs
      · obtain ⟨ob, hob⟩ : ∃ ob, w2.heap.size = ob := ⟨_, rfl⟩
        have s3 := s2.alloc #[.slice none 0 0, .slice none 0 0, .slice none 0 0, .int .i64 0, .slice none 0 0] 27
        have u2 := s3.box 0 rfl
        simp only [boxAt] at u2
        obtain ⟨⟨u0, u1, u2, u3, _⟩, _⟩ := u2
        rw [hob] at s3
        try simp -dsimp [go_sem, u0, u1, u2, u3]
        first | rw [hob] | rw [← hz2, hob]
        clear u0 u1 u2 u3
        generalize w2.alloc (.cells #[.slice none 0 0, .slice none 0 0, .slice none 0 0, .int .i64 0, .slice none 0 0] 27) = w3 at s3 ⊢
        have y3 := s3.box 0 rfl
        simp [boxAt] at y3
        refine CALL_of (CloneS_ct (Rep.below h2 (bl s3.chg)) (by have := s3.chg.size; omega) hfit.nons) ?_
        rintro _ w4 ⟨aS, cS, rfl, sN⟩
        have s4 := s3.seq sN
        have y4 := s4.box 0 rfl
        simp [boxAt] at y4
        simp -dsimp [go_sem, y4]
        refine CALL_of (ClipS_ct (s4.clip 4 rfl).1 (s4.clip 4 rfl).2) ?_
        rintro _ _ ⟨rfl, rfl⟩
        simp -dsimp [go_sem, y4]
        refine CALL_of (CloneI_ct (Rep.below h3 (bl s4.chg)) (by have := s4.chg.size; omega) hfit.levels) ?_
        rintro v5 w5 ⟨hown, hcI⟩
        obtain ⟨aI, cI, rfl⟩ : ∃ a c, v5 = .slice a g.levels.length c := by
          rcases hown.2 with ⟨e1, e2⟩ | ⟨g, cap, cur, hv, _⟩
          · exact ⟨none, 0, by rw [e1, e2]⟩
          · exact ⟨_, _, hv⟩
        have s5 := s4.seq (St.ofRow hown hcI)
        rw [← xInt_flat] at s5
        have y5 := s5.box 0 rfl
        simp [boxAt] at y5
        simp -dsimp [go_sem, y5]
        refine CALL_of (ClipI_ct (s5.clip 5 rfl).1 (s5.clip 5 rfl).2) ?_
        rintro _ _ ⟨rfl, rfl⟩
        simp -dsimp [go_sem, y5]
        have z5 := s5.box 3 rfl
        simp [boxAt] at z5
        have t5 := ((((s5.set 3 rfl 0 (.slice aT g.terms.length g.terms.length)).set 3 rfl 1 (.slice aS g.nons.length g.nons.length)).set 3 rfl 2 (.slice aI g.levels.length g.levels.length)).set 3 rfl 3 (.int .i64 g.start)).set 3 rfl 4 (.slice none 0 0)
        simp -dsimp [go_sem, z5]
        exact copy_b4 h4 hB hfit (t5.pick [0, 1, 3, 2, 4, 5] (by decide) rfl) fun w' Ap cp vs hs => hR2 w' _ _ _ Ap cp vs hs
    · obtain ⟨ob, hob⟩ : ∃ ob, w2.heap.size = ob := ⟨_, rfl⟩
      have s3 := s2.alloc #[.slice none 0 0, .slice none 0 0, .slice none 0 0, .int .i64 0, .slice none 0 0] 27
      have u2 := s3.box 0 rfl
      simp only [boxAt] at u2
      obtain ⟨⟨u0, u1, u2, u3, _⟩, _⟩ := u2
      rw [hob] at s3
      try simp -dsimp [go_sem, u0, u1, u2, u3]
      first | rw [hob] | rw [← hz2, hob]
      clear u0 u1 u2 u3
      generalize w2.alloc (.cells #[.slice none 0 0, .slice none 0 0, .slice none 0 0, .int .i64 0, .slice none 0 0] 27) = w3 at s3 ⊢
      have y3 := s3.box 0 rfl
      simp [boxAt] at y3
      refine CALL_of (ClipT_ct (s3.clip 2 rfl).1 (s3.clip 2 rfl).2) ?_
      rintro _ _ ⟨rfl, rfl⟩
      simp -dsimp [go_sem, y3]
      refine CALL_of (CloneS_ct (Rep.below h2 (bl s3.chg)) (by have := s3.chg.size; omega) hfit.nons) ?_
      rintro _ w4 ⟨aS, cS, rfl, sN⟩
      have s4 := s3.seq sN
      have y4 := s4.box 0 rfl
      simp [boxAt] at y4
      simp -dsimp [go_sem, y4]
      refine CALL_of (ClipS_ct (s4.clip 4 rfl).1 (s4.clip 4 rfl).2) ?_
      rintro _ _ ⟨rfl, rfl⟩
      simp -dsimp [go_sem, y4]
      refine CALL_of (CloneI_ct (Rep.below h3 (bl s4.chg)) (by have := s4.chg.size; omega) hfit.levels) ?_
      rintro v5 w5 ⟨hown, hcI⟩
      obtain ⟨aI, cI, rfl⟩ : ∃ a c, v5 = .slice a g.levels.length c := by
        rcases hown.2 with ⟨e1, e2⟩ | ⟨g, cap, cur, hv, _⟩
        · exact ⟨none, 0, by rw [e1, e2]⟩
        · exact ⟨_, _, hv⟩
      have s5 := s4.seq (St.ofRow hown hcI)
      rw [← xInt_flat] at s5
      have y5 := s5.box 0 rfl
      simp [boxAt] at y5
      simp -dsimp [go_sem, y5]
      refine CALL_of (ClipI_ct (s5.clip 5 rfl).1 (s5.clip 5 rfl).2) ?_
      rintro _ _ ⟨rfl, rfl⟩
      simp -dsimp [go_sem, y5]
      have z5 := s5.box 3 rfl
      simp [boxAt] at z5
      have t5 := ((((s5.set 3 rfl 0 (.slice aT g.terms.length g.terms.length)).set 3 rfl 1 (.slice aS g.nons.length g.nons.length)).set 3 rfl 2 (.slice aI g.levels.length g.levels.length)).set 3 rfl 3 (.int .i64 g.start)).set 3 rfl 4 (.slice none 0 0)
      simp -dsimp [go_sem, z5]
      exact copy_b4 h4 hB hfit (t5.pick [0, 1, 3, 2, 4, 5] (by decide) rfl) fun w' Ap cp vs hs => hR2 w' _ _ _ Ap cp vs hs
  · obtain ⟨ob, hob⟩ : ∃ ob, w1.heap.size = ob := ⟨_, rfl⟩
    have s2 := s1.alloc #[.slice none 0 0, .slice none 0 0, .slice none 0 0, .int .i64 0, .slice none 0 0] 27
    have u1 := s2.box 0 rfl
    simp only [boxAt] at u1
    obtain ⟨⟨u0, u1, u2, u3, _⟩, _⟩ := u1
    rw [hob] at s2
    try simp -dsimp [go_sem, u0, u1, u2, u3]
    first | rw [hob] | rw [← hz2, hob]
    clear u0 u1 u2 u3
    generalize w1.alloc (.cells #[.slice none 0 0, .slice none 0 0, .slice none 0 0, .int .i64 0, .slice none 0 0] 27) = w2 at s2 ⊢
    have y2 := s2.box 0 rfl
    simp [boxAt] at y2
    refine CALL_of (CloneT_ct (Rep.below h1 (bl s2.chg)) (by have := s2.chg.size; omega) hfit.terms) ?_
    rintro _ w3 ⟨aT, cT, rfl, sN⟩
    have s3 := s2.seq sN
    have y3 := s3.box 0 rfl
    simp [boxAt] at y3
    simp -dsimp [go_sem, y3]
    refine CALL_of (ClipT_ct (s3.clip 3 rfl).1 (s3.clip 3 rfl).2) ?_
    rintro _ _ ⟨rfl, rfl⟩
    simp -dsimp [go_sem, y3]
    refine CALL_of (CloneS_ct (Rep.below h2 (bl s3.chg)) (by have := s3.chg.size; omega) hfit.nons) ?_
    rintro _ w4 ⟨aS, cS, rfl, sN⟩
    have s4 := s3.seq sN
    have y4 := s4.box 0 rfl
    simp [boxAt] at y4
    simp -dsimp [go_sem, y4]
    refine CALL_of (ClipS_ct (s4.clip 4 rfl).1 (s4.clip 4 rfl).2) ?_
    rintro _ _ ⟨rfl, rfl⟩
    simp -dsimp [go_sem, y4]
    refine CALL_of (CloneI_ct (Rep.below h3 (bl s4.chg)) (by have := s4.chg.size; omega) hfit.levels) ?_
    rintro v5 w5 ⟨hown, hcI⟩
    obtain ⟨aI, cI, rfl⟩ : ∃ a c, v5 = .slice a g.levels.length c := by
      rcases hown.2 with ⟨e1, e2⟩ | ⟨g, cap, cur, hv, _⟩
      · exact ⟨none, 0, by rw [e1, e2]⟩
      · exact ⟨_, _, hv⟩
    have s5 := s4.seq (St.ofRow hown hcI)
    rw [← xInt_flat] at s5
    have y5 := s5.box 0 rfl
    simp [boxAt] at y5
    simp -dsimp [go_sem, y5]
    refine CALL_of (ClipI_ct (s5.clip 5 rfl).1 (s5.clip 5 rfl).2) ?_
    rintro _ _ ⟨rfl, rfl⟩
    simp -dsimp [go_sem, y5]
    have z5 := s5.box 2 rfl
    simp [boxAt] at z5
    have t5 := ((((s5.set 2 rfl 0 (.slice aT g.terms.length g.terms.length)).set 2 rfl 1 (.slice aS g.nons.length g.nons.length)).set 2 rfl 2 (.slice aI g.levels.length g.levels.length)).set 2 rfl 3 (.int .i64 g.start)).set 2 rfl 4 (.slice none 0 0)
    simp -dsimp [go_sem, z5]
    exact copy_b4 h4 hB hfit (t5.pick [0, 1, 2, 3, 4, 5] (by decide) rfl) fun w' Ap cp vs hs => hR2 w' _ _ _ Ap cp vs hs
end Go.Proofs.Ytkacbjhiobnbfaa

