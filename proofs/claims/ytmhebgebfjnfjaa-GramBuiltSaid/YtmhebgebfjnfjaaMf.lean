/-
  Texts of this claim: Gl1, Gl2, Gl3, Gl4.
-/
import Derived.Test.YtmhebgebfjnfjaaMc
/-
  A builder, in its pieces.
-/
namespace Go.Px
open Go.RowKit
/-- Cells of a block. -/
def celC (b : Nat) (cs : List Value) : Ch where
  ok w F := F b ∧ b < w.heap.size ∧ boxAt w b 0 cs ∧ ∀ j, j < cs.length → w.frozen? ⟨b, j, none⟩ = false
  keep {w w' X F F'} h hc hX hF := by
    obtain ⟨h1, h2, h3, h4⟩ := h
    have key : ∀ (cs : List Value) (j : Nat), boxAt w b j cs → boxAt w' b j cs := by
      intro cs
      induction cs with
      | nil => exact fun _ _ => trivial
      | cons v r ih => exact fun j hj => ⟨(hc.cell (p := ⟨b, j, none⟩) h2 (hX b h2 h1)).trans hj.1, ih _ hj.2⟩
    exact ⟨hF b h2 h1, Nat.lt_of_lt_of_le h2 hc.size, key _ _ h3, fun j hj => (hc.frozen (p := ⟨b, j, none⟩) h2 (hX b h2 h1)).trans (h4 j hj)⟩

theorem boxAt_set {w : World} {b : Nat} : ∀ {cs : List Value} {o i : Nat} {u : Value}, boxAt w b o cs → i < cs.length → boxAt (w.setCell ⟨b, o + i, none⟩ u) b o (cs.set i u)
  | [], _, _, _, _, hi => absurd hi (Nat.not_lt_zero _)
  | v :: r, o, 0, u, h, _ => by
    refine ⟨World.cell?_setCell_same _ _ _ h.1, ?_⟩
    have : ∀ (cs : List Value) (j : Nat), o < j → boxAt w b j cs → boxAt (w.setCell ⟨b, o, none⟩ u) b j cs := by
      intro cs
      induction cs with
      | nil => exact fun _ _ _ => trivial
      | cons x r ih => exact fun j hj hb => ⟨(World.cell?_setCell_other _ _ _ _ (by intro e; injection e with _ e; omega)).trans hb.1, ih _ (by omega) hb.2⟩
    exact this r (o + 1) (by omega) h.2
  | v :: r, o, i + 1, u, h, hi => by
    refine ⟨(World.cell?_setCell_other _ _ _ _ (by intro e; injection e with _ e; omega)).trans h.1, ?_⟩
    have := boxAt_set (i := i) (u := u) h.2 (by simpa using hi)
    rw [show o + (i + 1) = o + 1 + i by omega]
    exact this

/-- Numbers that are read, one list for each. -/
def intsC (vs : List Value) (ls : List (List Int)) : Ch where
  ok w F := vs.length = ls.length ∧ ∀ (i : Nat) v l, vs[i]? = some v → ls[i]? = some l → ∃ A c, v = .slice A l.length c ∧ l.length ≤ c ∧ c ≤ maxLen ∧ (∀ x ∈ l, inI64 x) ∧ (0 < l.length → ∃ b o, A = some ⟨b, o, none⟩ ∧ F b ∧ b < w.heap.size ∧ ∀ (j : Nat) x, l[j]? = some x → w.cell? ⟨b, o + j, none⟩ = some (.int .i64 x))
  keep h hc hX hF := by
    refine ⟨h.1, fun i v l h1 h2 => ?_⟩
    obtain ⟨A, c, hv, h3, h4, h5, h6⟩ := h.2 i v l h1 h2
    refine ⟨A, c, hv, h3, h4, h5, fun hp => ?_⟩
    obtain ⟨b, o, hA, hb, hlt, hcell⟩ := h6 hp
    exact ⟨b, o, hA, hF b hlt hb, Nat.lt_of_lt_of_le hlt hc.size, fun j x hj => (hc.cell (p := ⟨b, o + j, none⟩) hlt (hX b hlt hb)).trans (hcell j x hj)⟩

section
variable {G : Nat → Prop} {W w w' : World} {L : List Ch}
theorem St.cel (h : St G W w L) (k : Nat) {b : Nat} {cs : List Value} (hk : L[k]? = some (celC b cs)) : boxAt w b 0 cs ∧ ∀ j, j < cs.length → w.frozen? ⟨b, j, none⟩ = false := by
  obtain ⟨F, ho, _⟩ := h.get hk
  exact ho.2.2
theorem St.setCel (h : St G W w L) (k : Nat) {b : Nat} {cs : List Value} (hk : L[k]? = some (celC b cs)) (j : Nat) (hj : j < cs.length) (u : Value) : St G W (w.setCell ⟨b, j, none⟩ u) (L.set k (celC b (cs.set j u))) := by
  obtain ⟨F, ho, _, hs⟩ := h.opn hk
  refine hs _ _ ((chg_setCell _ _ _).mono fun i _ e => by rw [e]; exact ho.1) ⟨Or.inl ho.1, by simpa using ho.2.1, ?_, fun i hi => (World.frozen?_setCell _ _ _ _).trans (ho.2.2.2 i (by simpa using hi))⟩
  have := boxAt_set (i := j) (u := u) ho.2.2.1 hj
  rwa [Nat.zero_add] at this
end
end Go.Px
namespace Go.Proofs.Ytmhebgebfjnfjaa
open Go.Px Go.Px.Scan Go.RowKit
set_option maxHeartbeats 1000000
set_option linter.unusedSimpArgs false
set_option linter.unusedVariables false
set_option maxRecDepth 100000
attribute [-go_sem] Builtin.append_

/-- A builder's pieces. -/
def bldL (b : Nat) (S : BS) (a0 : Option Addr) (c0 : Nat) (m0 : Value) (a2 : Option Addr) (c2 : Nat) (m2 : Value) (a4 : Option Addr) (c4 : Nat) (a5 : Option Addr) (c5 : Nat) (a6 : Option Addr) (c6 : Nat) (rs : List Value) : List Ch :=
  [celC b [.slice a0 S.terms.length c0, m0, .slice a2 S.nons.length c2, m2, .slice a4 S.terms.length c4, .slice a5 S.levels.length c5, .slice a6 S.rules.length c6, .int .i64 S.start],
    rowC 9 1 a0 S.terms.length c0 (S.terms.map fun t => .string t.1), mapC Try.prog kStr 9 3 m0 S.terms.length (posH (S.terms.map (·.1))),
    rowC 9 1 a2 S.nons.length c2 (S.nons.map Value.string), mapC Try.prog kStr 9 3 m2 S.nons.length (posH S.nons),
    rowC 3 1 a4 S.terms.length c4 (S.terms.map fun t => .int .i64 t.2), rowC 3 1 a5 S.levels.length c5 (S.levels.map (.int .i64 ·)),
    rowC 86 3 a6 S.rules.length c6 ((S.rules.zip rs).flatMap fun x => ruleC x.1 x.2), intsC rs (S.rules.map (·.2.1))]

theorem Bld.pieces {w : World} {T : Nat → Nat} {b : Nat} {V : BV} {S : BS} {F : Nat → Prop} (h : Bld w T b V S) (hF : ∀ i, T i ≠ 0 → F i) : ∃ a0 c0 m0 a2 c2 m2 a4 c4 a5 c5 a6 c6 rs, allOk (bldL b S a0 c0 m0 a2 c2 m2 a4 c4 a5 c5 a6 c6 rs) w F := by
  obtain ⟨a0, c0, e0⟩ := h.terms.row.form
  obtain ⟨a2, c2, e2⟩ := h.nons.row.form
  obtain ⟨a4, c4, e4⟩ := h.graded.form
  obtain ⟨a5, c5, e5⟩ := h.levels.form
  obtain ⟨a6, c6, e6⟩ := h.rules.form
  rw [List.length_map] at e0
  have t1 := h.tag
  have hb := h.lt b (by omega)
  refine ⟨a0, c0, V.vm, a2, c2, V.vk, a4, c4, a5, c5, a6, c6, V.rs, T, fun i hi => ⟨hF i hi, h.lt i hi⟩, fun k c hk => ?_⟩
  have q0 := h.terms.row
  rw [List.length_map, List.map_map, e0] at q0
  have q2 := h.nons.row
  rw [e2] at q2
  have q4 := h.graded
  rw [e4] at q4
  have q5 := h.levels
  rw [e5] at q5
  have q6 := h.rules
  rw [e6] at q6
  match k, hk with
  | 0, hk =>
    injection hk with hk; subst hk
    refine ⟨t1, hb, ⟨by rw [← e0]; exact h.terms.c0, h.terms.c1, by rw [← e2]; exact h.nons.c0, h.nons.c1, by rw [← e4]; exact h.cg, by rw [← e5]; exact h.cl, by rw [← e6]; exact h.cr, h.cs, trivial⟩, fun j hj => h.fz j hj⟩
  | 1, hk => injection hk with hk; subst hk; exact ⟨q0.1, fun i hi => q0.2 i hi⟩
  | 2, hk =>
    injection hk with hk; subst hk
    have := h.terms.map
    rw [List.length_map] at this
    exact ⟨this, fun i hi => h.terms.tag i hi⟩
  | 3, hk => injection hk with hk; subst hk; exact ⟨q2.1, fun i hi => q2.2 i hi⟩
  | 4, hk => injection hk with hk; subst hk; exact ⟨h.nons.map, fun i hi => h.nons.tag i hi⟩
  | 5, hk => injection hk with hk; subst hk; exact ⟨q4.1, fun i hi => q4.2 i hi⟩
  | 6, hk => injection hk with hk; subst hk; exact ⟨q5.1, fun i hi => q5.2 i hi⟩
  | 7, hk => injection hk with hk; subst hk; exact ⟨q6.1, fun i hi => q6.2 i hi⟩
  | 8, hk =>
    injection hk with hk; subst hk
    refine ⟨by rw [List.length_map]; exact h.rlen, fun i v l h1 h2 => ?_⟩
    rw [List.getElem?_map] at h2
    cases hr : S.rules[i]? with
    | none => rw [hr] at h2; cases h2
    | some r =>
      rw [hr] at h2
      injection h2 with h2
      subst h2
      have hR := h.rights i r v hr h1
      obtain ⟨A, c, hv, h3, h4, _, h5⟩ := id hR.rd
      injection hv with hv
      subst hv
      refine ⟨A, c, rfl, h3, h4, fun x hx => ?_, fun hp => ?_⟩
      · obtain ⟨j, hj, rfl⟩ := List.getElem_of_mem hx
        obtain ⟨_, _, _, _, _, h9⟩ := Go.Px.ints_at hR.rd hj
        exact h9
      · obtain ⟨b', o, rfl, hb', hc'⟩ := h5 hp
        refine ⟨b', o, rfl, hR.tg (by intro e; have hp' : 0 < r.2.1.length := hp; rw [e] at hp'; simp at hp') b' rfl, hb', fun j x hj => ?_⟩
        obtain ⟨ys, hy, hu⟩ := hc' j x hj
        have hy1 := hy.1
        subst hy1
        simpa [rInt] using hu 0 _ rfl

theorem Bld.ofPieces {w : World} {b : Nat} {S : BS} {F : Nat → Prop} {a0 : Option Addr} {c0 : Nat} {m0 : Value} {a2 : Option Addr} {c2 : Nat} {m2 : Value} {a4 : Option Addr} {c4 : Nat} {a5 : Option Addr} {c5 : Nat} {a6 : Option Addr} {c6 : Nat} {rs : List Value}
    (h : allOk (bldL b S a0 c0 m0 a2 c2 m2 a4 c4 a5 c5 a6 c6 rs) w F) (ok : BSok S) : ∃ T V, Bld w T b V S ∧ ∀ i, T i ≠ 0 → F i := by
  obtain ⟨T, ht, hk⟩ := h
  obtain ⟨k1, k2, k3, k4⟩ := hk 0 _ rfl
  have p1 := hk 1 _ rfl
  have p2 := hk 2 _ rfl
  have p3 := hk 3 _ rfl
  have p4 := hk 4 _ rfl
  have p5 := hk 5 _ rfl
  have p6 := hk 6 _ rfl
  have p7 := hk 7 _ rfl
  have p8 := hk 8 _ rfl
  obtain ⟨z0, z1, z2, z3, z4, z5, z6, z7, _⟩ := k3
  refine ⟨T, ⟨.slice a0 S.terms.length c0, m0, .slice a2 S.nons.length c2, m2, .slice a4 S.terms.length c4, .slice a5 S.levels.length c5, .slice a6 S.rules.length c6, rs⟩, ⟨k1, fun i hi => (ht i hi).2, ⟨z0, z1, k4 0 (by simp), k4 1 (by simp), ⟨?_, p1.2⟩, ?_, p2.2⟩, ⟨z2, z3, k4 2 (by simp), k4 3 (by simp), ⟨p3.1, p3.2⟩, p4.1, p4.2⟩, z4, z5, z6, z7, fun j hj => k4 j (by simpa using hj), ⟨p5.1, p5.2⟩, ⟨p6.1, p6.2⟩, ⟨p7.1, p7.2⟩, ?_, fun i r v h1 h2 => ?_, ok⟩, fun i hi => (ht i hi).1⟩
  · have := p1.1
    rw [List.length_map, List.map_map]; exact this
  · have := p2.1
    rw [List.length_map]; exact this
  · have := p8.1; simpa using this
  · obtain ⟨A, c, hv, h3, h4, h5, h6⟩ := p8.2 i v r.2.1 h2 (by rw [List.getElem?_map, h1]; rfl)
    subst hv
    refine ⟨⟨A, c, rfl, h3, h4, trivial, fun hp => ?_⟩, fun hne j hj => ?_⟩
    · obtain ⟨b', o, rfl, hb', hlt, hc'⟩ := h6 hp
      refine ⟨b', o, rfl, hlt, fun j x hj => ⟨[.int .i64 x], ⟨rfl, h5 x (List.mem_of_getElem? hj)⟩, fun n u hn => ?_⟩⟩
      have hn0 : n = 0 := by have := (List.getElem?_eq_some_iff.1 hn).1; simp at this; omega
      subst hn0
      simp at hn
      subst hn
      simpa [rInt] using hc' j x hj
    · obtain ⟨b', o, rfl, hb', _⟩ := h6 (by cases e : r.2.1 with
        | nil => exact absurd e hne
        | cons x y => simp)
      injection hj with hj
      rw [← hj]; exact hb'
end Go.Proofs.Ytmhebgebfjnfjaa

/-
  Level: what it answers.
-/
namespace Go.Px.Scan
open Go.Px
/-- Terminals get a level. -/
def setLv (n : Int) (ts : List (ByteArray × Int)) (l : List Int) : List (ByteArray × Int) := l.foldl (fun ts h => ts.modify (h - 1).toNat fun t => (t.1, n)) ts
theorem modify_names (ts : List (ByteArray × Int)) (k : Nat) (n : Int) : (ts.modify k fun t => (t.1, n)).map (·.1) = ts.map (·.1) := by
  apply List.ext_getElem?
  intro i
  rw [List.getElem?_map, List.getElem?_map, List.getElem?_modify]
  cases ts[i]? <;> simp
  split <;> simp
theorem setLv_names (n : Int) (l : List Int) : ∀ ts, (setLv n ts l).map (·.1) = ts.map (·.1) := by
  induction l with
  | nil => exact fun _ => rfl
  | cons h r ih => intro ts; exact (ih _).trans (modify_names _ _ _)
theorem setLv_length (n : Int) (l : List Int) (ts : List (ByteArray × Int)) : (setLv n ts l).length = ts.length := by
  have := congrArg List.length (setLv_names n l ts)
  simpa using this
theorem setLv_snoc (n : Int) (ts : List (ByteArray × Int)) (l : List Int) (h : Int) : setLv n ts (l ++ [h]) = (setLv n ts l).modify (h - 1).toNat fun t => (t.1, n) := by simp [setLv]
theorem modify_level (ts : List (ByteArray × Int)) (k : Nat) (n : Int) : (ts.modify k fun t => (t.1, n)).map (fun t => Value.int .i64 t.2) = (ts.map fun t => Value.int .i64 t.2).set k (.int .i64 n) := by
  apply List.ext_getElem?
  intro i
  rw [List.getElem?_map, List.getElem?_modify, List.getElem?_set, List.getElem?_map]
  by_cases e : k = i
  · subst e
    by_cases hk : k < ts.length
    · simp [hk]
    · simp [hk]
  · simp [e]
theorem setLv_get (n : Int) (l : List Int) : ∀ (ts : List (ByteArray × Int)) (i : Nat), (∀ h ∈ l, 1 ≤ h) → (setLv n ts l)[i]? = (ts[i]?).map fun t => if (i : Int) + 1 ∈ l then (t.1, n) else t := by
  induction l with
  | nil => intro ts i _; simp [setLv]
  | cons h r ih =>
    intro ts i hp
    have h1 := hp h (by simp)
    show (setLv n (ts.modify (h - 1).toNat fun t => (t.1, n)) r)[i]? = _
    rw [ih _ _ fun x hx => hp x (by simp [hx]), List.getElem?_modify]
    cases e : ts[i]? with
    | none => simp
    | some t =>
      by_cases hk : (h - 1).toNat = i
      · have : (i : Int) + 1 = h := by omega
        simp [hk, this]
      · have : (i : Int) + 1 ≠ h := by omega
        have hk' : ¬ (h.toNat - 1 = i) := by omega
        simp [hk', this]

/-- May these terminals get a level? -/
structure LvP (S : BS) (side : Int) (l : List Int) : Prop where
  s0 : 1 ≤ side
  s1 : side ≤ 3
  ne : l ≠ []
  terms : ∀ h ∈ l, 1 ≤ h ∧ h ≤ S.terms.length ∧ ((S.terms[(h - 1).toNat]?).map (·.2)).getD 0 = 0
  nd : l.Nodup
open Classical in
/-- What Level answers, and leaves. -/
noncomputable def levelA (S : BS) (side : Int) (l : List Int) : Int × Int × BS :=
  if LvP S side l then ((S.levels.length : Int) + 1, 0, { S with levels := S.levels ++ [side], terms := setLv ((S.levels.length : Int) + 1) S.terms l }) else (0, 1, S)
theorem levelA_yes {S : BS} {side : Int} {l : List Int} (h : LvP S side l) : levelA S side l = ((S.levels.length : Int) + 1, 0, { S with levels := S.levels ++ [side], terms := setLv ((S.levels.length : Int) + 1) S.terms l }) := if_pos h
theorem levelA_no {S : BS} {side : Int} {l : List Int} (h : ¬ LvP S side l) : levelA S side l = (0, 1, S) := if_neg h

theorem LvP.used {S : BS} {side : Int} {l : List Int} (h : LvP S side l) (hwf : BSwf S) : ∀ i, i < S.levels.length + 1 → ∃ t ∈ setLv ((S.levels.length : Int) + 1) S.terms l, t.2 = (i : Int) + 1 := by
  intro i hi
  have hp : ∀ x ∈ l, 1 ≤ x := fun x hx => (h.terms x hx).1
  by_cases e : i = S.levels.length
  · subst e
    cases hl : l with
    | nil => exact absurd hl h.ne
    | cons x r =>
      have hx := h.terms x (by rw [hl]; simp)
      have hlt : (x - 1).toNat < S.terms.length := by omega
      have := setLv_get ((S.levels.length : Int) + 1) l S.terms (x - 1).toNat hp
      rw [List.getElem?_eq_getElem hlt] at this
      rw [Option.map_some, if_pos (by rw [show (((x - 1).toNat : Nat) : Int) + 1 = x by omega, hl]; simp)] at this
      rw [← hl]
      exact ⟨_, List.mem_of_getElem? this, rfl⟩
  · obtain ⟨t, ht, e2⟩ := hwf.used i (by omega)
    obtain ⟨k, hk, rfl⟩ := List.getElem_of_mem ht
    have := setLv_get ((S.levels.length : Int) + 1) l S.terms k hp
    rw [List.getElem?_eq_getElem hk, Option.map_some] at this
    rw [if_neg (fun hm => by
      have h9 := (h.terms _ hm).2.2
      rw [show ((k : Int) + 1 - 1).toNat = k by omega, List.getElem?_eq_getElem hk] at h9
      simp at h9
      omega)] at this
    exact ⟨_, List.mem_of_getElem? this, e2⟩

theorem LvP.lev {S : BS} {side : Int} {l : List Int} (h : LvP S side l) (hwf : BSwf S) : S.levels.length + 1 ≤ S.terms.length := by
  have h1 : ((List.range (S.levels.length + 1)).map fun i : Nat => (i : Int) + 1).length ≤ ((setLv ((S.levels.length : Int) + 1) S.terms l).map (·.2)).length := by
    refine nodup_le ?_ fun x hx => ?_
    · refine List.pairwise_map.2 ?_
      refine List.Pairwise.imp ?_ (List.nodup_range (n := S.levels.length + 1))
      intro a b hab e
      exact hab (by omega)
    · obtain ⟨i, hi, rfl⟩ := List.mem_map.1 hx
      obtain ⟨t, ht, e⟩ := h.used hwf i (by simpa using hi)
      exact List.mem_map.2 ⟨t, ht, e⟩
  simp [setLv_length] at h1
  exact h1

theorem setLv_mem {n : Int} {l : List Int} {ts : List (ByteArray × Int)} (hp : ∀ x ∈ l, 1 ≤ x) {t : ByteArray × Int} (ht : t ∈ setLv n ts l) : ∃ s ∈ ts, t = s ∨ t = (s.1, n) := by
  obtain ⟨k, hk⟩ := List.getElem?_of_mem ht
  rw [setLv_get n l ts k hp] at hk
  cases e : ts[k]? with
  | none => rw [e] at hk; cases hk
  | some s =>
    rw [e] at hk
    injection hk with hk
    refine ⟨s, List.mem_of_getElem? e, ?_⟩
    split at hk
    · exact Or.inr hk.symm
    · exact Or.inl hk.symm

theorem levelA_ok {S : BS} {side : Int} {l : List Int} (h : LvP S side l) (ok : BSok S) (hwf : BSwf S) : BSok { S with levels := S.levels ++ [side], terms := setLv ((S.levels.length : Int) + 1) S.terms l } := by
  have hp : ∀ x ∈ l, 1 ≤ x := fun x hx => (h.terms x hx).1
  refine ⟨by simp only [setLv_length]; exact ok.syms, fun t ht => ?_, ok.nnam, by show ((setLv _ _ _).map _).Nodup; rw [setLv_names]; exact ok.tnd, ok.nnd, by simp only [setLv_length, List.length_append, List.length_singleton]; exact h.lev hwf, fun t ht => ?_, ok.prods⟩
  · obtain ⟨s, hs, rfl | rfl⟩ := setLv_mem hp ht
    · exact ok.tnam _ hs
    · exact ok.tnam s hs
  · simp only [List.length_append, List.length_singleton]
    obtain ⟨s, hs, rfl | rfl⟩ := setLv_mem hp ht
    · have := ok.grd _ hs; omega
    · show 0 ≤ (S.levels.length : Int) + 1 ∧ _; omega
theorem levelA_wf {S : BS} {side : Int} {l : List Int} (hwf : BSwf S) : BSwf (levelA S side l).2.2 := by
  by_cases h : LvP S side l
  · rw [levelA_yes h]
    refine ⟨hwf.left, fun r hr x hx => by simp only [setLv_length]; exact hwf.right r hr x hx, fun r hr => ?_, hwf.start, fun s hs => ?_, hwf.fit, fun i hi => ?_⟩
    · have := hwf.lev r hr; simp only [List.length_append, List.length_singleton]; omega
    · simp at hs
      rcases hs with hs | rfl
      · exact hwf.sides s hs
      · exact ⟨h.s0, h.s1⟩
    · exact h.used hwf i (by simpa using hi)
  · rw [levelA_no h]; exact hwf
/-- What Grade answers, and leaves. -/
def gradeA (S : BS) (level : Int) (l : List Int) : Int × BS :=
  if (0 ≤ level ∧ level ≤ S.levels.length) ∧ ∀ p ∈ l, 0 ≤ p ∧ p < S.rules.length then (0, { S with rules := l.foldl (fun rs p => rs.modify p.toNat fun r => (r.1, r.2.1, level)) S.rules }) else (1, S)
theorem gradeA_mem {level : Int} {l : List Int} : ∀ {rs : List (Int × List Int × Int)} {r}, r ∈ l.foldl (fun rs p => rs.modify p.toNat fun r => (r.1, r.2.1, level)) rs → ∃ s ∈ rs, r = s ∨ r = (s.1, s.2.1, level) := by
  induction l with
  | nil => exact fun {rs r} h => ⟨r, h, Or.inl rfl⟩
  | cons p q ih =>
    intro rs r h
    obtain ⟨s, hs, e⟩ := ih h
    obtain ⟨k, hk⟩ := List.getElem?_of_mem hs
    rw [List.getElem?_modify] at hk
    cases e' : rs[k]? with
    | none => rw [e'] at hk; cases hk
    | some s' =>
      rw [e'] at hk
      injection hk with hk
      refine ⟨s', List.mem_of_getElem? e', ?_⟩
      by_cases hpk : p.toNat = k
      · simp [hpk] at hk
        rcases e with rfl | rfl
        · exact Or.inr hk.symm
        · rw [← hk]; exact Or.inr rfl
      · simp [hpk] at hk
        subst hk; exact e
theorem gradeA_len (level : Int) (l : List Int) : ∀ rs : List (Int × List Int × Int), (l.foldl (fun rs p => rs.modify p.toNat fun r => (r.1, r.2.1, level)) rs).length = rs.length := by
  induction l with
  | nil => exact fun _ => rfl
  | cons p q ih => intro rs; rw [List.foldl_cons, ih]; simp
theorem gradeA_ok {S : BS} {level : Int} {l : List Int} (ok : BSok S) : BSok (gradeA S level l).2 := by
  unfold gradeA
  split
  · exact ⟨ok.syms, ok.tnam, ok.nnam, ok.tnd, ok.nnd, ok.lev, ok.grd, by show List.length _ ≤ 96; rw [gradeA_len]; exact ok.prods⟩
  · exact ok
theorem gradeA_wf {S : BS} {level : Int} {l : List Int} (hwf : BSwf S) : BSwf (gradeA S level l).2 := by
  unfold gradeA
  split
  · rename_i h
    refine ⟨fun r hr => ?_, fun r hr x hx => ?_, fun r hr => ?_, hwf.start, hwf.sides, fun r hr => ?_, hwf.used⟩
    · obtain ⟨s, hs, rfl | rfl⟩ := gradeA_mem hr
      · exact hwf.left _ hs
      · exact hwf.left s hs
    · obtain ⟨s, hs, rfl | rfl⟩ := gradeA_mem hr
      · exact hwf.right _ hs x hx
      · exact hwf.right s hs x hx
    · obtain ⟨s, hs, rfl | rfl⟩ := gradeA_mem hr
      · exact hwf.lev _ hs
      · exact h.1
    · obtain ⟨s, hs, rfl | rfl⟩ := gradeA_mem hr
      · exact hwf.fit _ hs
      · exact hwf.fit s hs
  · exact hwf
end Go.Px.Scan

/-
  Level and Grade: the walks.
-/
namespace Go.Proofs.Ytmhebgebfjnfjaa
open Go.Px Go.Px.Scan Go.RowKit
set_option maxHeartbeats 1000000
set_option linter.unusedSimpArgs false
set_option linter.unusedVariables false
set_option maxRecDepth 100000
attribute [-go_sem] Builtin.append_
attribute [-go_sem] gram_Builder_Level.b5 gram_Builder_Level.b8 gram_Builder_Level.b7 gram_Builder_Grade.b5

theorem bldC_len (b : Nat) (S : BS) (a0 : Option Addr) (c0 : Nat) (m0 : Value) (a2 : Option Addr) (c2 : Nat) (m2 : Value) (a4 : Option Addr) (c4 : Nat) (a5 : Option Addr) (c5 : Nat) (a6 : Option Addr) (c6 : Nat) (rs : List Value) (X : List Ch) :
    (bldL b S a0 c0 m0 a2 c2 m2 a4 c4 a5 c5 a6 c6 rs ++ X).take 9 = bldL b S a0 c0 m0 a2 c2 m2 a4 c4 a5 c5 a6 c6 rs := rfl

/-- A call's piece, put together again. -/
theorem bldC_leave {F : Nat → Prop} {w w' : World} {b : Nat} {S : BS} {a0 : Option Addr} {c0 : Nat} {m0 : Value} {a2 : Option Addr} {c2 : Nat} {m2 : Value} {a4 : Option Addr} {c4 : Nat} {a5 : Option Addr} {c5 : Nat} {a6 : Option Addr} {c6 : Nat} {rs : List Value} {X : List Ch}
    (h : St F w w' (bldL b S a0 c0 m0 a2 c2 m2 a4 c4 a5 c5 a6 c6 rs ++ X)) (ok : BSok S) (hwf : BSwf S) : Chg F w w' ∧ (bldC b S).ok w' (fun i => F i ∨ (w.heap.size ≤ i ∧ i < w'.heap.size)) := by
  have h9 := h.take 9
  rw [bldC_len] at h9
  obtain ⟨T, V, hb, hT⟩ := Bld.ofPieces h9.leave ok
  exact ⟨h.chg, hwf, T, V, hb, hT⟩

/-- What a call may do to a builder. -/
def Done (F : Nat → Prop) (w : World) (b : Nat) (S' : BS) (w' : World) : Prop := Chg F w w' ∧ (bldC b S').ok w' (fun i => F i ∨ (w.heap.size ≤ i ∧ i < w'.heap.size))

theorem Level_ct {w : World} {F : Nat → Prop} {b B : Nat} {S : BS} (h : (bldC b S).ok w F) {side : Int} (hs : inI64 side) {u : Value} {l : List Int} (hu : ∀ w', Chg F w w' → (rSlice rInt).at1 w' B u l) :
    Ct Try.prog gram_Builder_Level.id #[.pointer (some ⟨b, 0, none⟩), .int .i64 side, u] w fun v w' => v = .tuple #[.int .i64 (levelA S side l).1, .int .i64 (levelA S side l).2.1] ∧ Done F w b (levelA S side l).2.2 w' := by
  refine gram_Builder_Level.ct fun R hR => ?_
  obtain ⟨hwf, T, V, hb, hT⟩ := h
  have ok := hb.ok
  have hsy := ok.syms
  obtain ⟨a0, c0, m0, a2, c2, m2, a4, c4, a5, c5, a6, c6, rs, hp⟩ := hb.pieces hT
  have s0 := St.enter hp
  obtain ⟨A, c, rfl, hl1, hl2, _⟩ := slice_form (hu w (Chg.refl _ _))
  have no : ∀ w' X, St F w w' (bldL b S a0 c0 m0 a2 c2 m2 a4 c4 a5 c5 a6 c6 rs ++ X) → ¬ LvP S side l → R (.returned (.tuple #[.int .i64 0, .int .i64 1])) w' := fun w' X hst hn => by
    rw [levelA_no hn] at hR
    exact hR _ _ ⟨rfl, bldC_leave hst ok hwf⟩
  have s0' : St F w w (bldL b S a0 c0 m0 a2 c2 m2 a4 c4 a5 c5 a6 c6 rs ++ []) := by simpa using s0
  unfold gram_Builder_Level.run
  simp -dsimp [go_sem]
  refine SPL_intro (fun q1 => ?_) (fun q1 => ?_) <;> simp at q1
  · simp -dsimp [go_sem]
    exact no _ _ s0' fun hv => by have := hv.s0; omega
  simp -dsimp [go_sem]
  refine SPL_intro (fun q2 => ?_) (fun q2 => ?_) <;> simp at q2
  · simp -dsimp [go_sem]
    exact no _ _ s0' fun hv => by have := hv.s1; omega
  simp -dsimp [go_sem]
  refine SPL_intro (fun q3 => ?_) (fun q3 => ?_) <;> simp at q3
  · exact no _ _ s0' fun hv => hv.ne q3
  have s1 := s0.map Try.prog kInt 3 3
  simp -dsimp [go_sem, mkInt]
  generalize w.heap.size = m at s1 ⊢
  generalize w.alloc (.map #[] 0) = w1 at s1 ⊢
  refine gram_Builder_Level.l14_intro _ _ _ _ _ _ _ _ _ (fun y w' => ∃ (k n : Nat) (f : Int → Int), y = .int .i64 k ∧ k ≤ l.length ∧ n ≤ k ∧ St F w w' (bldL b S a0 c0 m0 a2 c2 m2 a4 c4 a5 c5 a6 c6 rs ++ [mapC Try.prog kInt 3 3 (.map (some m)) n f]) ∧
    (∀ x, 0 < f x ↔ x ∈ l.take k) ∧ (∀ x, 0 ≤ f x ∧ f x ≤ k) ∧ (∀ h ∈ l.take k, 1 ≤ h ∧ h ≤ S.terms.length ∧ gradeOf S h = 0) ∧ (l.take k).Nodup) (fun y _ => l.length - iv y) ⟨0, 0, _, rfl, by omega, by omega, s1, by simp, by simp, by simp, by simp⟩ ?_
  rintro _ w2 ⟨k, n, f, rfl, hk, hnk, s2, hf, hfk, hall, hnd⟩ C hC
  simp -dsimp [go_sem]
  refine SPL_intro (fun p1 => ?_) (fun p1 => ?_) <;> simp at p1
  · obtain ⟨b1, o1, rfl, hb1, x1, x2⟩ := Go.Px.ints_at (hu _ s2.chg) p1
    have hkm : k < maxLen := by omega
    have wk := wrap_succ p1 (Nat.le_trans hl1 hl2)
    simp -dsimp [go_sem, p1, x1]
    have h9 := s2.take 9
    rw [bldC_len] at h9
    obtain ⟨T2, V2, hb2, hT2⟩ := Bld.ofPieces h9.leave ok
    refine CALL_of (isTermHandle_ct hb2 x2) ?_
    rintro _ _ ⟨rfl, rfl⟩
    have htk : l.take (k + 1) = l.take k ++ [l[k]] := List.take_succ_eq_append_getElem p1
    have hmem : l[k] ∈ l := List.getElem_mem p1
    cases hT3 : isT S l[k] with
    | false =>
      simp -dsimp [go_sem]
      refine no _ _ s2 fun hv => ?_
      have := hv.terms _ hmem
      rw [show isT S l[k] = true by simp [isT]; omega] at hT3; cases hT3
    | true =>
      have hrg : 1 ≤ l[k] ∧ l[k] ≤ S.terms.length := by simpa [isT] using hT3
      obtain ⟨j, hj⟩ : ∃ j : Nat, l[k] = (j : Int) + 1 := ⟨(l[k] - 1).toNat, by omega⟩
      have hjl : j < S.terms.length := by omega
      obtain ⟨y2, _⟩ := s2.cel 0 rfl
      simp [boxAt] at y2
      obtain ⟨g4, rfl, y4, _⟩ := s2.rowAt 5 rfl (j := j) (by simpa using hjl)
      simp only [List.getElem_map] at y4
      have ws : IntKind.i64.wrap (l[k] - 1) = (j : Int) := by rw [hj, show (j : Int) + 1 - 1 = j by omega]; exact IntWalk.i64_in _ (by omega)
      have hgr : gradeOf S l[k] = S.terms[j].2 := by
        unfold gradeOf
        rw [show (l[k] - 1).toNat = j by omega, List.getElem?_eq_getElem hjl]; rfl
      have hg0 := ok.grd S.terms[j] (List.getElem_mem hjl)
      simp -dsimp [go_sem, y2, ws, hjl, y4]
      refine SPL_intro (fun p2 => ?_) (fun p2 => ?_) <;> simp at p2
      · simp -dsimp [go_sem]
        refine no _ _ s2 fun hv => ?_
        have := (hv.terms _ hmem).2.2
        have h8 : gradeOf S l[k] = 0 := this
        omega
      have mg : (Instr.lookup 87 (.map (some m)) (.int .i64 l[k]) false).run Try.prog w2 = _ := s2.mapGet mInt 9 rfl l[k] x2
      simp -dsimp [go_sem, mg]
      refine SPL_intro (fun p3 => ?_) (fun p3 => ?_) <;> simp at p3
      · refine no _ _ s2 fun hv => ?_
        have h1 := (hf l[k]).1 p3
        obtain ⟨i, hi, e⟩ := List.getElem_of_mem h1
        simp at hi
        rw [List.getElem_take] at e
        exact List.pairwise_iff_getElem.1 hv.nd i k (by omega) p1 (by omega) e
      have hno : l[k] ∉ l.take k := fun hm => by have := (hf _).2 hm; omega
      have hf0 : f l[k] = 0 := by have := hfk l[k]; omega
      obtain ⟨w3, hrun, s3⟩ := s2.mapPut mInt 9 rfl l[k] x2 (by omega) (x := 1) (by unfold inI64; omega) (by omega) (n + 1) (fun c => if c = l[k] then 1 else f c) (fun _ => rfl) (fun h => absurd hf0 h) (if_pos rfl) (fun c hc => if_neg hc)
      have hrun' : (Instr.mapUpdate 87 (.map (some m)) (.int .i64 l[k]) (.int .i64 1)).run Try.prog w2 = _ := hrun
      simp -dsimp [go_sem, mg, hf0, hrun', wk]
      refine hC _ _ ⟨k + 1, _, _, by simp, by omega, by omega, s3, fun x => ?_, fun x => ?_, fun x hx => ?_, ?_⟩ (by simp [iv]; omega)
      · rw [htk, List.mem_append, List.mem_singleton]
        by_cases e : x = l[k]
        · simp [e]
        · simp only [if_neg e, e, or_false]; exact hf x
      · have := hfk x
        by_cases e : x = l[k]
        · simp only [if_pos e]; omega
        · simp only [if_neg e]; omega
      · rw [htk, List.mem_append, List.mem_singleton] at hx
        rcases hx with hx | rfl
        · exact hall x hx
        · exact ⟨hrg.1, hrg.2, by omega⟩
      · rw [htk]
        refine List.nodup_append.2 ⟨hnd, by simp, fun a ha b' hb' => ?_⟩
        rw [List.mem_singleton.1 hb']
        intro e; rw [e] at ha; exact hno ha
  · have hka : k = l.length := by omega
    subst hka
    rw [List.take_length] at hall hnd
    have hv : LvP S side l := ⟨by omega, by omega, q3, fun h hh => hall h hh, hnd⟩
    rw [levelA_yes hv] at hR
    clear hC C
    have lev1 := hv.lev hwf
    obtain ⟨y2, yf2⟩ := s2.cel 0 rfl
    simp [boxAt] at y2
    have yf5 := yf2 5 (by simp)
    unfold gram_Builder_Level.b5
    simp -dsimp [go_sem, y2]
    refine s2.append1 6 rfl uInts iInt rfl (by omega) (news := [.int .i64 side]) rfl (by simp [Value.oneCell']) (by unfold maxLen; omega) (by unfold maxBytes; omega) ?_
    intro g' cap w3 s3
    obtain ⟨y3, yf3⟩ := s3.cel 0 rfl
    simp [boxAt] at y3
    have yf5 := yf3 5 (by simp)
    have s4 := s3.setCel 0 rfl 5 (by simp) (.slice (some ⟨g', 0, none⟩) (S.levels.length + 1) cap)
    simp -dsimp [go_sem, y3, yf5]
    generalize w3.setCell ⟨b, 5, none⟩ (.slice (some ⟨g', 0, none⟩) (S.levels.length + 1) cap) = w4 at s4 ⊢
    unfold gram_Builder_Level.b8
    simp -dsimp [go_sem]
    refine gram_Builder_Level.l10_intro _ _ _ _ _ _ (fun y w' => ∃ k : Nat, y = .int .i64 k ∧ k ≤ l.length ∧
      St F w w' [celC b [.slice a0 S.terms.length c0, m0, .slice a2 S.nons.length c2, m2, .slice a4 S.terms.length c4, .slice (some ⟨g', 0, none⟩) (S.levels.length + 1) cap, .slice a6 S.rules.length c6, .int .i64 S.start],
        rowC 9 1 a0 S.terms.length c0 (S.terms.map fun t => .string t.1), mapC Try.prog kStr 9 3 m0 S.terms.length (posH (S.terms.map (·.1))),
        rowC 9 1 a2 S.nons.length c2 (S.nons.map Value.string), mapC Try.prog kStr 9 3 m2 S.nons.length (posH S.nons),
        rowC 3 1 a4 S.terms.length c4 ((setLv ((S.levels.length : Int) + 1) S.terms (l.take k)).map fun t => .int .i64 t.2), rowC 3 1 (some ⟨g', 0, none⟩) (S.levels.length + 1) cap (S.levels.map (.int .i64 ·) ++ [.int .i64 side]),
        rowC 86 3 a6 S.rules.length c6 ((S.rules.zip rs).flatMap fun x => ruleC x.1 x.2), intsC rs (S.rules.map (·.2.1))]) (fun y _ => l.length - iv y) ⟨0, rfl, by omega, by
        have h0 : setLv ((S.levels.length : Int) + 1) S.terms (l.take 0) = S.terms := by simp [setLv]
        rw [h0]
        exact s4.take 9⟩ ?_
    rintro _ w5 ⟨k, rfl, hk, s5⟩ C hC
    obtain ⟨y5, _⟩ := s5.cel 0 rfl
    simp [boxAt] at y5
    simp -dsimp [go_sem]
    refine SPL_intro (fun p1 => ?_) (fun p1 => ?_) <;> simp at p1
    · obtain ⟨b1, o1, rfl, hb1, x1, x2⟩ := Go.Px.ints_at (hu _ s5.chg) p1
      have wk := wrap_succ p1 (Nat.le_trans hl1 hl2)
      have hrg := hall l[k] (List.getElem_mem p1)
      obtain ⟨j, hj⟩ : ∃ j : Nat, l[k] = (j : Int) + 1 := ⟨(l[k] - 1).toNat, by omega⟩
      have hjl : j < S.terms.length := by omega
      have ws : IntKind.i64.wrap (l[k] - 1) = (j : Int) := by rw [hj, show (j : Int) + 1 - 1 = j by omega]; exact IntWalk.i64_in _ (by omega)
      have s6 := s5.old ((Chg.refl noB w5).drew)
      obtain ⟨y6, _⟩ := s6.cel 0 rfl
      simp [boxAt] at y6
      obtain ⟨g4, rfl, y4, yf4⟩ := s6.rowAt 5 rfl (j := j) (by simpa [setLv_length] using hjl)
      have s7 := s6.setRow 5 rfl j (.int .i64 ((S.levels.length : Int) + 1))
      have htk : l.take (k + 1) = l.take k ++ [l[k]] := List.take_succ_eq_append_getElem p1
      have em : ((setLv ((S.levels.length : Int) + 1) S.terms (l.take k)).map fun t => Value.int .i64 t.2).set j (.int .i64 ((S.levels.length : Int) + 1)) = (setLv ((S.levels.length : Int) + 1) S.terms (l.take (k + 1))).map fun t => Value.int .i64 t.2 := by
        rw [htk, setLv_snoc, show (l[k] - 1).toNat = j by omega, modify_level]
      rw [em] at s7
      simp only [List.getElem_map] at y4
      simp -dsimp [go_sem, p1, x1, y6, ws, hjl, y4, yf4, wk]
      exact hC _ _ ⟨k + 1, by simp, by omega, s7⟩ (by simp [iv]; omega)
    · have hka : k = l.length := by omega
      subst hka
      rw [List.take_length] at s5
      unfold gram_Builder_Level.b7
      simp -dsimp [go_sem, y5]
      refine hR _ _ ⟨by simp, ?_⟩
      have e : [celC b [.slice a0 S.terms.length c0, m0, .slice a2 S.nons.length c2, m2, .slice a4 S.terms.length c4, .slice (some ⟨g', 0, none⟩) (S.levels.length + 1) cap, .slice a6 S.rules.length c6, .int .i64 S.start],
        rowC 9 1 a0 S.terms.length c0 (S.terms.map fun t => .string t.1), mapC Try.prog kStr 9 3 m0 S.terms.length (posH (S.terms.map (·.1))),
        rowC 9 1 a2 S.nons.length c2 (S.nons.map Value.string), mapC Try.prog kStr 9 3 m2 S.nons.length (posH S.nons),
        rowC 3 1 a4 S.terms.length c4 ((setLv ((S.levels.length : Int) + 1) S.terms l).map fun t => .int .i64 t.2), rowC 3 1 (some ⟨g', 0, none⟩) (S.levels.length + 1) cap (S.levels.map (.int .i64 ·) ++ [.int .i64 side]),
        rowC 86 3 a6 S.rules.length c6 ((S.rules.zip rs).flatMap fun x => ruleC x.1 x.2), intsC rs (S.rules.map (·.2.1))] = bldL b { S with levels := S.levels ++ [side], terms := setLv ((S.levels.length : Int) + 1) S.terms l } a0 c0 m0 a2 c2 m2 a4 c4 (some ⟨g', 0, none⟩) cap a6 c6 rs ++ [] := by
        have h1 := setLv_names ((S.levels.length : Int) + 1) l S.terms
        have h2 := setLv_length ((S.levels.length : Int) + 1) l S.terms
        have h3 : (setLv ((S.levels.length : Int) + 1) S.terms l).map (fun t => Value.string t.1) = S.terms.map fun t => Value.string t.1 := by
          have := congrArg (List.map Value.string) h1
          rw [List.map_map, List.map_map] at this
          exact this
        simp only [bldL, h1, h2, h3, List.length_append, List.length_singleton, List.map_append, List.map_cons, List.map_nil, List.append_nil]
      rw [e] at s5
      have hwf' := levelA_wf (side := side) (l := l) hwf
      rw [levelA_yes hv] at hwf'
      exact bldC_leave s5 (levelA_ok hv ok hwf) hwf'
end Go.Proofs.Ytmhebgebfjnfjaa

/-
  Grade: the walk; calls of Level and Grade.
-/
namespace Go.Proofs.Ytmhebgebfjnfjaa
open Go.Px Go.Px.Scan Go.RowKit
set_option maxHeartbeats 1000000
set_option linter.unusedSimpArgs false
set_option linter.unusedVariables false
set_option maxRecDepth 100000
attribute [-go_sem] Builtin.append_
attribute [-go_sem] gram_Builder_Grade.b5

def badP (S : BS) (p : Int) : Bool := decide (p < 0 ∨ (S.rules.length : Int) ≤ p)
theorem grade_snoc (level : Int) (l : List Int) (p : Int) (rs : List (Int × List Int × Int)) : (l ++ [p]).foldl (fun rs p => rs.modify p.toNat fun r => (r.1, r.2.1, level)) rs = (l.foldl (fun rs p => rs.modify p.toNat fun r => (r.1, r.2.1, level)) rs).modify p.toNat fun r => (r.1, r.2.1, level) := by simp
theorem grade_cells (level : Int) : ∀ (rs : List (Int × List Int × Int)) (vs : List Value) (k : Nat), vs.length = rs.length → k < rs.length →
    (((rs.modify k fun r => (r.1, r.2.1, level)).zip vs).flatMap fun x => ruleC x.1 x.2) = ((rs.zip vs).flatMap fun x => ruleC x.1 x.2).set (k * 3 + 2) (.int .i64 level)
  | [], _, _, _, h => absurd h (Nat.not_lt_zero _)
  | r :: rs, [], _, h, _ => by cases h
  | r :: rs, v :: vs, 0, _, _ => by simp [ruleC]
  | r :: rs, v :: vs, k + 1, h, hk => by
    have := grade_cells level rs vs k (by simpa using h) (by simpa using hk)
    simp only [List.modify_succ_cons, List.zip_cons_cons, List.flatMap_cons, this]
    rw [show (k + 1) * 3 + 2 = 3 + (k * 3 + 2) by omega]
    simp only [ruleC, List.cons_append, List.nil_append, show 3 + (k * 3 + 2) = (k * 3 + 2) + 1 + 1 + 1 by omega, List.set_cons_succ]
theorem grade_rights (level : Int) (rs : List (Int × List Int × Int)) (k : Nat) : (rs.modify k fun r => (r.1, r.2.1, level)).map (·.2.1) = rs.map (·.2.1) := by
  apply List.ext_getElem?
  intro i
  rw [List.getElem?_map, List.getElem?_map, List.getElem?_modify]
  cases rs[i]? <;> simp
  split <;> simp
theorem grade_rights' (level : Int) (l : List Int) : ∀ rs : List (Int × List Int × Int), (l.foldl (fun rs p => rs.modify p.toNat fun r => (r.1, r.2.1, level)) rs).map (·.2.1) = rs.map (·.2.1) := by
  induction l with
  | nil => exact fun _ => rfl
  | cons p q ih => intro rs; rw [List.foldl_cons, ih, grade_rights]

theorem Grade_ct {w : World} {F : Nat → Prop} {b B : Nat} {S : BS} (h : (bldC b S).ok w F) {level : Int} (hs : inI64 level) {u : Value} {l : List Int} (hu : ∀ w', Chg F w w' → (rSlice rInt).at1 w' B u l) :
    Ct Try.prog gram_Builder_Grade.id #[.pointer (some ⟨b, 0, none⟩), .int .i64 level, u] w fun v w' => v = .int .i64 (gradeA S level l).1 ∧ Done F w b (gradeA S level l).2 w' := by
  refine gram_Builder_Grade.ct fun R hR => ?_
  obtain ⟨hwf, T, V, hb, hT⟩ := h
  have ok := hb.ok
  have hsy := ok.syms
  have hpr := ok.prods
  obtain ⟨a0, c0, m0, a2, c2, m2, a4, c4, a5, c5, a6, c6, rs, hp⟩ := hb.pieces hT
  have s0 := St.enter hp
  obtain ⟨A, c, rfl, hl1, hl2, _⟩ := slice_form (hu w (Chg.refl _ _))
  have no : ∀ w' X, St F w w' (bldL b S a0 c0 m0 a2 c2 m2 a4 c4 a5 c5 a6 c6 rs ++ X) → ¬ ((0 ≤ level ∧ level ≤ S.levels.length) ∧ ∀ p ∈ l, 0 ≤ p ∧ p < S.rules.length) → R (.returned (.int .i64 1)) w' := fun w' X hst hn => by
    have : gradeA S level l = (1, S) := if_neg hn
    rw [this] at hR
    exact hR _ _ ⟨rfl, bldC_leave hst ok hwf⟩
  have s1 := s0.alloc #[.pointer (some ⟨b, 0, none⟩)] 24
  unfold gram_Builder_Grade.run
  simp -dsimp [go_sem]
  generalize w.heap.size = q at s1 ⊢
  generalize w.alloc (.cells #[.pointer (some ⟨b, 0, none⟩)] 24) = w1 at s1 ⊢
  have k1 := s1.box 9 rfl
  simp [boxAt] at k1
  obtain ⟨y1, _⟩ := s1.cel 0 rfl
  simp [boxAt] at y1
  refine SPL_intro (fun q1 => ?_) (fun q1 => ?_) <;> simp at q1
  · simp -dsimp [go_sem]
    exact no _ _ s1 fun hv => by omega
  simp -dsimp [go_sem, k1, y1]
  refine SPL_intro (fun q2 => ?_) (fun q2 => ?_) <;> simp at q2
  · simp -dsimp [go_sem]
    exact no _ _ s1 fun hv => by omega
  simp -dsimp [go_sem]
  refine CALL_of (ContainsFuncI_ct (p := badP S) (hu _ s1.chg) fun x _ hx => ?_) ?_
  · refine gram_Builder_Grade_1.ct fun R hR => ?_
    unfold gram_Builder_Grade_1.run
    simp -dsimp [go_sem]
    refine SPL_intro (fun h2 => ?_) (fun h2 => ?_) <;> simp at h2
    · exact hR _ _ ⟨by simp [badP, h2], rfl⟩
    · simp -dsimp [go_sem, k1, y1]
      refine hR _ _ ⟨?_, rfl⟩
      unfold badP
      congr 1
      refine decide_eq_decide.2 ?_
      omega
  rintro _ _ ⟨rfl, rfl⟩
  cases hany : l.any (badP S) with
  | true =>
    simp -dsimp [go_sem]
    refine no _ _ s1 fun hv => ?_
    obtain ⟨x, hx, h2⟩ := List.any_eq_true.1 hany
    have := hv.2 x hx
    simp [badP] at h2
    omega
  | false =>
    have hall : ∀ p ∈ l, 0 ≤ p ∧ p < S.rules.length := fun p hp => by
      have := any_false hany p hp
      simp [badP] at this
      omega
    have hya : gradeA S level l = (0, { S with rules := l.foldl (fun rs p => rs.modify p.toNat fun r => (r.1, r.2.1, level)) S.rules }) := if_pos ⟨by omega, hall⟩
    simp -dsimp [go_sem]
    unfold gram_Builder_Grade.b5
    simp -dsimp [go_sem]
    obtain ⟨FF, ho8, _⟩ := s1.get (k := 8) rfl
    have hrl : rs.length = S.rules.length := by have := ho8.1; simpa using this
    refine gram_Builder_Grade.l7_intro _ _ _ _ _ _ _ (fun y w' => ∃ k : Nat, y = .int .i64 k ∧ k ≤ l.length ∧
      St F w w' [celC b [.slice a0 S.terms.length c0, m0, .slice a2 S.nons.length c2, m2, .slice a4 S.terms.length c4, .slice a5 S.levels.length c5, .slice a6 S.rules.length c6, .int .i64 S.start],
        rowC 9 1 a0 S.terms.length c0 (S.terms.map fun t => .string t.1), mapC Try.prog kStr 9 3 m0 S.terms.length (posH (S.terms.map (·.1))),
        rowC 9 1 a2 S.nons.length c2 (S.nons.map Value.string), mapC Try.prog kStr 9 3 m2 S.nons.length (posH S.nons),
        rowC 3 1 a4 S.terms.length c4 (S.terms.map fun t => .int .i64 t.2), rowC 3 1 a5 S.levels.length c5 (S.levels.map (.int .i64 ·)),
        rowC 86 3 a6 S.rules.length c6 ((((l.take k).foldl (fun rs p => rs.modify p.toNat fun r => (r.1, r.2.1, level)) S.rules).zip rs).flatMap fun x => ruleC x.1 x.2), intsC rs (S.rules.map (·.2.1)),
        boxC q 24 [.pointer (some ⟨b, 0, none⟩)]]) (fun y _ => l.length - iv y) ⟨0, rfl, by omega, s1⟩ ?_
    rintro _ w5 ⟨k, rfl, hk, s5⟩ C hC
    obtain ⟨y5, _⟩ := s5.cel 0 rfl
    have k5 := s5.box 9 rfl
    simp [boxAt] at y5 k5
    simp -dsimp [go_sem]
    refine SPL_intro (fun p1 => ?_) (fun p1 => ?_) <;> simp at p1
    · obtain ⟨b1, o1, rfl, hb1, x1, x2⟩ := Go.Px.ints_at (hu _ s5.chg) p1
      have wk := wrap_succ p1 (Nat.le_trans hl1 hl2)
      have hrg := hall l[k] (List.getElem_mem p1)
      obtain ⟨j, hj⟩ : ∃ j : Nat, l[k] = (j : Int) := ⟨l[k].toNat, by omega⟩
      have hjl : j < S.rules.length := by omega
      have hlen : ((l.take k).foldl (fun rs p => rs.modify p.toNat fun r => (r.1, r.2.1, level)) S.rules).length = S.rules.length := gradeA_len _ _ _
      have hsz := (s5.rowSize 7 rfl).1
      obtain ⟨g6, rfl, y7, yf7⟩ := s5.rowAt 7 rfl (j := j * 3 + 2) (by rw [hsz]; omega)
      have s7 := s5.setRow 7 rfl (j * 3 + 2) (.int .i64 level)
      have htk : l.take (k + 1) = l.take k ++ [l[k]] := List.take_succ_eq_append_getElem p1
      have em : ((((l.take k).foldl (fun rs p => rs.modify p.toNat fun r => (r.1, r.2.1, level)) S.rules).zip rs).flatMap fun x => ruleC x.1 x.2).set (j * 3 + 2) (.int .i64 level) = (((l.take (k + 1)).foldl (fun rs p => rs.modify p.toNat fun r => (r.1, r.2.1, level)) S.rules).zip rs).flatMap fun x => ruleC x.1 x.2 := by
        rw [htk, grade_snoc, show l[k].toNat = j by omega, grade_cells level _ rs j (by rw [hlen]; exact hrl) (by rw [hlen]; exact hjl)]
      rw [em] at s7
      rw [hj] at x1
      simp -dsimp [go_sem, p1, x1, y5, k5, hjl, y7, yf7, wk]
      exact hC _ _ ⟨k + 1, by simp, by omega, s7⟩ (by simp [iv]; omega)
    · have hka : k = l.length := by omega
      subst hka
      rw [List.take_length] at s5
      simp -dsimp [go_sem]
      rw [hya] at hR
      refine hR _ _ ⟨rfl, ?_⟩
      have e : [celC b [.slice a0 S.terms.length c0, m0, .slice a2 S.nons.length c2, m2, .slice a4 S.terms.length c4, .slice a5 S.levels.length c5, .slice a6 S.rules.length c6, .int .i64 S.start],
        rowC 9 1 a0 S.terms.length c0 (S.terms.map fun t => .string t.1), mapC Try.prog kStr 9 3 m0 S.terms.length (posH (S.terms.map (·.1))),
        rowC 9 1 a2 S.nons.length c2 (S.nons.map Value.string), mapC Try.prog kStr 9 3 m2 S.nons.length (posH S.nons),
        rowC 3 1 a4 S.terms.length c4 (S.terms.map fun t => .int .i64 t.2), rowC 3 1 a5 S.levels.length c5 (S.levels.map (.int .i64 ·)),
        rowC 86 3 a6 S.rules.length c6 (((l.foldl (fun rs p => rs.modify p.toNat fun r => (r.1, r.2.1, level)) S.rules).zip rs).flatMap fun x => ruleC x.1 x.2), intsC rs (S.rules.map (·.2.1)),
        boxC q 24 [.pointer (some ⟨b, 0, none⟩)]] = bldL b { S with rules := l.foldl (fun rs p => rs.modify p.toNat fun r => (r.1, r.2.1, level)) S.rules } a0 c0 m0 a2 c2 m2 a4 c4 a5 c5 a6 c6 rs ++ [boxC q 24 [.pointer (some ⟨b, 0, none⟩)]] := by
        have h2 := gradeA_len level l S.rules
        have h3 := grade_rights' level l S.rules
        simp only [bldL, h2, h3, List.cons_append, List.nil_append]
      rw [e] at s5
      have h1 := gradeA_wf (level := level) (l := l) hwf
      have h2 := gradeA_ok (level := level) (l := l) ok
      rw [hya] at h1 h2
      exact bldC_leave s5 h2 h1

/-- A piece is turned; the others lie elsewhere. -/
theorem St.opn2 {G : Nat → Prop} {W w : World} {L : List Ch} (h : St G W w L) {k : Nat} {c0 : Ch} (hk : L[k]? = some c0) :
    ∃ F : Nat → Prop, c0.ok w F ∧ (∀ i, F i → i < w.heap.size ∧ (i < W.heap.size → G i)) ∧ (∀ j c, j ≠ k → L[j]? = some c → ∃ F' : Nat → Prop, c.ok w F' ∧ ∀ i, F' i → ¬ F i) ∧
      ∀ (w' : World) (c : Ch), Chg F w w' → c.ok w' (fun i => F i ∨ (w.heap.size ≤ i ∧ i < w'.heap.size)) → St G W w' (L.set k c) := by
  obtain ⟨hc0, T, ht, hL⟩ := id h
  have key : St G W w L := ⟨hc0, T, ht, hL⟩
  refine ⟨fun i => T i = k + 1, hL k c0 hk, fun i hi => ⟨(ht i (by omega)).2, (ht i (by omega)).1⟩, fun j c hjk hj => ⟨_, hL j c hj, fun i e1 e2 => by omega⟩, fun w' c hc hok => ⟨?_, fun i => if w.heap.size ≤ i ∧ i < w'.heap.size then k + 1 else T i, fun i hi => ?_, fun j d hj => ?_⟩⟩
  · exact hc0.trans' hc fun i hi e => (ht i (by omega)).1 hi
  · by_cases e : w.heap.size ≤ i ∧ i < w'.heap.size
    · exact ⟨fun h => by have := hc0.size; omega, e.2⟩
    · dsimp only at hi; rw [if_neg e] at hi
      exact ⟨(ht i hi).1, Nat.lt_of_lt_of_le (ht i hi).2 hc.size⟩
  · rw [List.getElem?_set] at hj
    by_cases e : k = j
    · subst e
      have hkl := (List.getElem?_eq_some_iff.1 hk).1
      rw [if_pos rfl, if_pos hkl] at hj
      injection hj with hj
      subst hj
      refine c.keep (X := noB) hok (Chg.refl _ _) (fun _ _ _ => id) fun i hi e => ?_
      rcases e with e | e
      · have h1 := (ht i (by omega)).2
        dsimp only; rw [if_neg (by omega)]; exact e
      · dsimp only; rw [if_pos e]
    · rw [if_neg e] at hj
      refine d.keep (hL j d hj) hc (fun i hi e1 e2 => by omega) fun i hi e1 => ?_
      dsimp only; rw [if_neg (by omega)]; exact e1

/-- Numbers that are read, whatever piece k does. -/
def Apart (G : Nat → Prop) (W w : World) (L : List Ch) (k : Nat) (B : Nat) (u : Value) (l : List Int) : Prop :=
  ∀ F : Nat → Prop, (∀ i, F i → i < w.heap.size ∧ (i < W.heap.size → G i)) → (∀ j c, j ≠ k → L[j]? = some c → ∃ F' : Nat → Prop, c.ok w F' ∧ ∀ i, F' i → ¬ F i) → ∀ w', Chg F w w' → (rSlice rInt).at1 w' B u l

theorem Apart.base {W w : World} {L : List Ch} {k B : Nat} {u : Value} {l : List Int} (h : St noB W w L) (hu : (rSlice rInt).at1 W B u l) (hB : B ≤ W.heap.size) : Apart noB W w L k B u l := fun F hF _ w' hc =>
  Rep.below hu ((h.chg.trans' hc fun i hi e => (hF i e).2 hi).below hB fun _ _ => id)

theorem Apart.row {G : Nat → Prop} {W w : World} {L : List Ch} {k j : Nat} {a : Option Addr} {n c : Nat} {l : List Int} (hj : L[j]? = some (rowC 3 1 a n c (l.map (Value.int .i64 ·)))) (hjk : j ≠ k) (hl : ∀ x ∈ l, inI64 x) : Apart G W w L k w.heap.size (.slice a n c) l := fun F hF hd w' hc => by
  obtain ⟨F', ho, hdis⟩ := hd j _ hjk hj
  have hs := row_size ho
  have hn : n = l.length := by simpa using hs.1.symm
  refine ⟨a, c, by rw [hn], by omega, hs.2.2, trivial, fun hp => ?_⟩
  obtain ⟨g, rfl, _, _, hF', hg⟩ := row_at ho (j := 0) (by simpa using hp)
  refine ⟨g, 0, rfl, hg, fun i x hi => ⟨[.int .i64 x], ⟨rfl, hl x (List.mem_of_getElem? hi)⟩, fun m u hm => ?_⟩⟩
  have hm0 : m = 0 := by have := (List.getElem?_eq_some_iff.1 hm).1; simp at this; omega
  subst hm0
  simp at hm
  subst hm
  have hil := (List.getElem?_eq_some_iff.1 hi).1
  have hx := (List.getElem?_eq_some_iff.1 hi).2
  obtain ⟨g', e, hcell, _⟩ := row_at ho (j := i) (by simpa using hil)
  injection e with e; injection e with e; subst e
  simp only [List.getElem_map, hx] at hcell
  have := (hc.cell (p := ⟨g, i, none⟩) hg (hdis g hF')).trans hcell
  simpa [rInt] using this

section
variable {G : Nat → Prop} {W w : World} {L : List Ch} {X : Pan} {K : Value → World → Prop} {b : Nat} {S : BS}
theorem CALL_Level (h : St G W w L) (k : Nat) (hk : L[k]? = some (bldC b S)) {side : Int} (hx : inI64 side) {u : Value} {l : List Int} {B : Nat} (hu : Apart G W w L k B u l)
    (hK : ∀ w', St G W w' (L.set k (bldC b (levelA S side l).2.2)) → K (.tuple #[.int .i64 (levelA S side l).1, .int .i64 (levelA S side l).2.1]) w') : CALL Try.prog X gram_Builder_Level.id #[.pointer (some ⟨b, 0, none⟩), .int .i64 side, u] w K := by
  obtain ⟨F, hok, hF, hd, hs'⟩ := St.opn2 h hk
  refine CALL_of (Level_ct hok hx (hu F hF hd)) ?_
  rintro _ w' ⟨rfl, h1, h2⟩
  exact hK _ (hs' _ _ h1 h2)

theorem CALL_Grade (h : St G W w L) (k : Nat) (hk : L[k]? = some (bldC b S)) {level : Int} (hx : inI64 level) {u : Value} {l : List Int} {B : Nat} (hu : Apart G W w L k B u l)
    (hK : ∀ w', St G W w' (L.set k (bldC b (gradeA S level l).2)) → K (.int .i64 (gradeA S level l).1) w') : CALL Try.prog X gram_Builder_Grade.id #[.pointer (some ⟨b, 0, none⟩), .int .i64 level, u] w K := by
  obtain ⟨F, hok, hF, hd, hs'⟩ := St.opn2 h hk
  refine CALL_of (Grade_ct hok hx (hu F hF hd)) ?_
  rintro _ w' ⟨rfl, h1, h2⟩
  exact hK _ (hs' _ _ h1 h2)
end
end Go.Proofs.Ytmhebgebfjnfjaa

