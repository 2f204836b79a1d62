/-
  A builder's names: a new one.
-/
import Derived.Test.YtmhebgebfjnfjaaGm3
namespace Go.Px
/-- Nothing has turned but cells J of block b, and blocks F. -/
structure Fr (b : Nat) (J F : Nat → Prop) (w w' : World) : Prop where
  chg : Chg (fun i => i = b ∨ F i) w w'
  cell : ∀ j, ¬ J j → w'.cell? ⟨b, j, none⟩ = w.cell? ⟨b, j, none⟩
  frz : ∀ j, w'.frozen? ⟨b, j, none⟩ = w.frozen? ⟨b, j, none⟩
section
variable {b : Nat} {J F G : Nat → Prop} {w w' w'' : World}
theorem Fr.refl (w : World) : Fr b J F w w := ⟨Chg.refl _ _, fun _ _ => rfl, fun _ => rfl⟩
theorem Fr.trans (h : Fr b J F w w') (k : Fr b J F w' w'') : Fr b J F w w'' := ⟨h.chg.trans k.chg, fun j hj => (k.cell j hj).trans (h.cell j hj), fun j => (k.frz j).trans (h.frz j)⟩
theorem Fr.of (hc : Chg G w w') (hb : b < w.heap.size) (hG : ¬ G b) (hF : ∀ i, i < w.heap.size → G i → F i) : Fr b J F w w' :=
  ⟨hc.mono fun i hi h => Or.inr (hF i hi h), fun j _ => hc.cell (p := ⟨b, j, none⟩) hb hG, fun j => hc.frozen (p := ⟨b, j, none⟩) hb hG⟩
theorem Fr.set {j : Nat} (hj : J j) (u : Value) : Fr b J F w (w.setCell ⟨b, j, none⟩ u) :=
  ⟨(Chg.refl _ _).setCell (p := ⟨b, j, none⟩) (Or.inl (Or.inl rfl)) _, fun i hi => by
    rw [World.cell?_setCell_other]
    intro e
    injection e with _ e
    exact hi (e ▸ hj), fun i => World.frozen?_setCell _ _ _ _⟩
theorem Fr.mono {J' F' : Nat → Prop} (h : Fr b J F w w') (hJ : ∀ j, J j → J' j) (hF : ∀ i, F i → F' i) : Fr b J' F' w w' :=
  ⟨h.chg.mono fun i _ hi => hi.imp id (hF i), fun j hj => h.cell j fun hj' => hj (hJ j hj'), h.frz⟩
/-- New blocks may be turned later. -/
theorem Fr.trans' (h : Fr b J F w w') (k : Fr b J G w' w'') (hG : ∀ i, i < w.heap.size → G i → F i) : Fr b J F w w'' :=
  ⟨h.chg.trans' k.chg fun i hi hg => hg.imp id (hG i hi), fun j hj => (k.cell j hj).trans (h.cell j hj), fun j => (k.frz j).trans (h.frz j)⟩
end
end Go.Px

namespace Go.Proofs.Ytmhebgebfjnfjaa
open Go.Px Go.Px.Scan Go.RowKit
set_option maxHeartbeats 1000000
set_option linter.unusedSimpArgs false

theorem info_str : (Try.prog.info? 9).map (fun i => (i.zero, i.size, i.bytes)) = some (some (.string ⟨#[]⟩), 1, 16) := by kernel_rfl

/-- What a new name leaves behind. -/
structure NmNew (w : World) (T : Nat → Nat) (b o tx tm : Nat) (l : List ByteArray) (w' : World) (T' : Nat → Nat) (v' m' : Value) : Prop where
  nm : Nm w' T' b o tx tm v' m' l
  fr : Fr b (fun j => j = o ∨ j = o + 1) (fun i => T i = tx ∨ T i = tm) w w'
  old : ∀ i, i < w.heap.size → T' i = T i
  new : ∀ i, T' i ≠ 0 → T i = T' i ∨ (w.heap.size ≤ i ∧ (T' i = tx ∨ T' i = tm))
  lt : ∀ i, T' i ≠ 0 → i < w'.heap.size

set_option maxRecDepth 100000 in
theorem intern2_ok {R : Ending → World → Prop} {w : World} {T : Nat → Nat} {b o tx tm mb : Nat} {v : Value} {l : List ByteArray} (h : Nm w T b o tx tm v (.map (some mb)) l) {s : ByteArray} (hs : s.size ≤ 1000) (hno : s ∉ l) (hl : l.length ≤ 1000)
    (hT : ∀ i, T i ≠ 0 → i < w.heap.size) (hx : tx ≠ 0) (hm : tm ≠ 0) (hxm : tx ≠ tm) (hbx : T b ≠ tx) (hbm : T b ≠ tm)
    (hR : ∀ w' T' v', NmNew w T b o tx tm (l ++ [s]) w' T' v' (.map (some mb)) → R (.returned (.int .i64 ((l.length : Int) + 1))) w') : gram_names_intern.b2 R (.pointer (some ⟨b, o, none⟩)) (.string s) w := by
  have hmb := h.map.lt rfl
  have htm := h.tag mb rfl
  have hbw : b < w.heap.size := World.block_lt_of_cell? _ _ h.c0
  obtain ⟨i0, hi, hz0, hz1, hz2⟩ := info_parts info_str
  obtain ⟨a, c, hv⟩ := row_len h.row
  unfold gram_names_intern.b2
  generalize hap : Builtin.append_ = ap
  simp [go_sem, h.c0, h.c1]
  refine CALL_of (Clone_ct hs w.drew) ?_
  rintro _ w1 ⟨rfl, hc1⟩
  have hc1' : Chg (fun _ => False) w w1 := (Chg.refl _ _).drew.trans hc1
  have h1 := h.keep (T' := T) hc1' id (fun _ _ => id) (fun _ _ => id) (fun _ _ => rfl)
  have hs1 := hc1'.size
  have hb1 : b < w1.heap.size := Nat.lt_of_lt_of_le hbw hs1
  have hc2 : Chg (fun _ => False) w1 (w1.alloc (.cells #[.string s] 9)) := (Chg.refl _ _).alloc _
  have h2 := h1.keep (T' := T) hc2 id (fun _ _ => id) (fun _ _ => id) (fun _ _ => rfl)
  simp [go_sem, h1.c0, h1.c1, h2.c0]
  rw [← hap]
  clear hap ap
  have hn : ∀ j u, ([.string s] : List Value)[j]? = some u → (w1.alloc (.cells #[.string s] 9)).cell? ((⟨w1.heap.size, 0, none⟩ : Addr).add j) = some u := alloc_cells w1 [.string s] 9 rfl
  have hs2 := hc2.size
  generalize w1.alloc (.cells #[.string s] 9) = w2 at hc2 h2 hn hs2 ⊢
  refine append_own 33 33 9 Try.underlying33 hi hz0 hz1 hz2 rfl (by omega) h2.row.1 rfl hn ?_ (by unfold maxLen; omega) (by unfold maxBytes; omega) (Nat.zero_le _) ?_
  · intro u hu
    simp at hu
    subst hu; rfl
  intro g c3 w3 ho3 hg3 hgb
  have hc3 : Chg (fun i => T i = tx) w2 w3 := grown_chg hg3 fun k hk => h2.row.2 k hk
  have hs3 := hc3.size
  have hc03 : Chg (fun i => T i = tx) w w3 := ((hc1'.trans hc2).mono fun _ _ h => h.elim).trans hc3
  have k0 := hc3.at h2.c0 hbx
  have k1 := hc3.at h2.c1 hbx
  have kf0 := (hc3.frozen (p := ⟨b, o, none⟩) (by simp; omega) hbx).trans h2.f0
  have kf1 := (hc3.frozen (p := ⟨b, o + 1, none⟩) (by simp; omega) hbx).trans h2.f1
  have kmap := h2.map.chg hc3 (fun i hi he => by have := h2.tag i hi; omega)
  simp [go_sem, k0, kf0, k1]
  have k1' : (w3.setCell ⟨b, o, none⟩ (.slice (some ⟨g, 0, none⟩) (l.length + 1) c3)).cell? ⟨b, o + 1, none⟩ = some (.map (some mb)) := by
    exact (World.cell?_setCell_other _ _ _ _ (by simp)).trans k1
  have k0' : (w3.setCell ⟨b, o, none⟩ (.slice (some ⟨g, 0, none⟩) (l.length + 1) c3)).cell? ⟨b, o, none⟩ = some (.slice (some ⟨g, 0, none⟩) (l.length + 1) c3) := World.cell?_setCell_same _ _ _ k0
  have hc4 : Chg (· = b) w3 (w3.setCell ⟨b, o, none⟩ (.slice (some ⟨g, 0, none⟩) (l.length + 1) c3)) := (Chg.refl (· = b) w3).setCell (p := ⟨b, o, none⟩) (Or.inl rfl) _
  have kmap4 := kmap.chg hc4 (fun i hi he => by have := h2.tag i hi; rw [he] at this; exact hbm this)
  have ho4 := ownsRow_keep ho3 hc4 (fun i hi he => by
    have hgi : g = i := by injection hi
    have e : g = b := hgi.trans he
    rcases hgb with hgb | hgb
    · exact hbx (h2.row.2 b (by rw [hgb, e]))
    · omega)
  have hf4 : ∀ j, (w3.setCell ⟨b, o, none⟩ (.slice (some ⟨g, 0, none⟩) (l.length + 1) c3)).frozen? ⟨b, j, none⟩ = w3.frozen? ⟨b, j, none⟩ := fun j => World.frozen?_setCell _ _ _ _
  have hF4 : Fr b (fun j => j = o ∨ j = o + 1) (fun i => T i = tx ∨ T i = tm) w (w3.setCell ⟨b, o, none⟩ (.slice (some ⟨g, 0, none⟩) (l.length + 1) c3)) :=
    (Fr.of hc03 hbw hbx (fun i _ h => Or.inl h)).trans (Fr.set (Or.inl rfl) _)
  have hs4 := hc4.size
  generalize w3.setCell ⟨b, o, none⟩ (.slice (some ⟨g, 0, none⟩) (l.length + 1) c3) = w4 at k1' k0' hc4 kmap4 ho4 hf4 hF4 hs4 ⊢
  obtain ⟨w5, hrun, hmap5, hg5⟩ := (kmap4.chg (F := fun _ => False) (Chg.refl _ _).drew (fun _ _ => id)).update mapTy s (by show s.size ≤ maxLen; unfold maxLen; omega) (by unfold maxLen; omega) (x := (l.length : Int) + 1) (by unfold inI64; omega) (by omega)
  rw [show (Value.string s) = kStr.val s from rfl, hrun]
  have hc5 : Chg (· = mb) w4 w5 := ((Chg.refl _ w4).drew).trans (grown_chg hg5 fun k hk => by injection hk with hk; exact hk.symm)
  have hmbb : mb ≠ b := fun e => hbm (by rw [← e]; exact htm)
  have hs5 := hc5.size
  have q0 := hc5.at k0' (fun e => hmbb e.symm)
  have q1 := hc5.at k1' (fun e => hmbb e.symm)
  simp [go_sem, q0]
  have hpos : posH l s = 0 := posH_zero.2 hno
  have hgm : g ≠ mb := fun e => by
    rcases hgb with hgb | hgb
    · have h9 := h2.row.2 g hgb
      rw [e, htm] at h9
      exact hxm h9.symm
    · omega
  refine hR w5 (fun i => if i = g then tx else T i) (.slice (some ⟨g, 0, none⟩) (l.length + 1) c3) ⟨⟨q0, q1, ?_, ?_, ⟨?_, ?_⟩, ?_, ?_⟩, ?_, ?_, ?_, ?_⟩
  · rw [hc5.frozen (p := ⟨b, o, none⟩) (by simp; omega) (fun e => hmbb e.symm), hf4 o]; exact kf0
  · rw [hc5.frozen (p := ⟨b, o + 1, none⟩) (by simp; omega) (fun e => hmbb e.symm), hf4 (o + 1)]; exact kf1
  · rw [List.length_append, List.map_append]
    exact ownsRow_keep ho4 hc5 (fun i hi he => by injection hi with hi; exact hgm (hi.trans he))
  · intro i hi
    injection hi with hi
    simp [← hi]
  · rw [hpos, if_pos rfl] at hmap5
    rw [List.length_append]
    have : posH (l ++ [s]) = fun c => if c = s then (l.length : Int) + 1 else posH l c := funext fun c => posH_snoc hno c
    rw [this]
    rcases hmap5 with ⟨e, _⟩ | ⟨b', e, D, d1, d2, d3, d4⟩
    · cases e
    · refine Or.inr ⟨b', e, D, d1, d2, fun a => ?_, fun a ha => ?_⟩
      · rw [d3 a]; by_cases hh : a = s <;> simp [hh]
      · have h9 := d4 a ha
        by_cases hh : a = s
        · simp [hh]; omega
        · simp [hh] at h9 ⊢; exact h9
  · intro i hi
    injection hi with hi
    injection hi with hi
    rw [← hi, if_neg (fun e => hgm e.symm)]; exact htm
  · exact hF4.trans (Fr.of hc5 (by omega) (fun e => hmbb e.symm) (fun i _ e => Or.inr (by rw [e]; exact htm)))
  · intro i hi
    by_cases hig : i = g
    · rcases hgb with hgb | hgb
      · rw [if_pos hig, hig]; exact (h2.row.2 g hgb).symm
      · omega
    · rw [if_neg hig]
  · intro i hi
    by_cases hig : i = g
    · rw [if_pos hig]
      rcases hgb with hgb | hgb
      · left; rw [hig]; exact h2.row.2 g hgb
      · right; exact ⟨by omega, Or.inl rfl⟩
    · rw [if_neg hig]; exact Or.inl rfl
  · intro i hi
    by_cases hig : i = g
    · have := (ownsRow_block ho4 (k := g) rfl).2
      omega
    · rw [if_neg hig] at hi
      have := hT i hi
      omega

theorem map_eq_nil (x : Option Nat) (w : World) : (binOp BinOp.eql 41 (.map x) (.map none)).run Try.prog w = .ok (.bool x.isNone) w := by
  simp only [binOp, Op.equal]
  rw [show Op.maxDepth = 9999 + 1 from rfl]
  unfold Op.equalIn
  cases x <;> simp [run_underlying Try.underlying41, go_sem]
theorem run_makeMap41 (w : World) : (Instr.makeMap 41 none).run Try.prog w = .ok (.map (some w.heap.size)) (w.alloc (.map #[] 0)) := by
  simp [Instr.makeMap, run_underlying Try.underlying41, go_sem]

theorem intern_ct {w : World} {T : Nat → Nat} {b o tx tm : Nat} {v m : Value} {l : List ByteArray} (h : Nm w T b o tx tm v m l) {s : ByteArray} (hs : s.size ≤ 1000) (hno : s ∉ l) (hl : l.length ≤ 1000)
    (hT : ∀ i, T i ≠ 0 → i < w.heap.size) (hx : tx ≠ 0) (hm : tm ≠ 0) (hxm : tx ≠ tm) (hbx : T b ≠ tx) (hbm : T b ≠ tm) :
    Ct Try.prog gram_names_intern.id #[.pointer (some ⟨b, o, none⟩), .string s] w fun r w' => r = .int .i64 ((l.length : Int) + 1) ∧ ∃ T' v' m', NmNew w T b o tx tm (l ++ [s]) w' T' v' m' := by
  refine gram_names_intern.ct fun R hR => ?_
  have hbw : b < w.heap.size := World.block_lt_of_cell? _ _ h.c0
  unfold gram_names_intern.run gram_names_intern.b1
  have hmm : m = .map none ∨ ∃ mb, m = .map (some mb) := by
    rcases h.map with ⟨e, _⟩ | ⟨mb, e, _⟩
    · exact Or.inl e
    · exact Or.inr ⟨mb, e⟩
  rcases hmm with rfl | ⟨mb, rfl⟩
  · have hn0 : l.length = 0 ∧ posH l = fun _ => 0 := by
      rcases h.map with ⟨_, e, hf⟩ | ⟨mb, e, _⟩
      · exact ⟨e, funext hf⟩
      · cases e
    simp [go_sem, h.c0, h.c1]
    rw [map_eq_nil]
    simp [go_sem, run_makeMap41]
    have hc1 : Chg (fun _ => False) w (w.alloc (.map #[] 0)) := (Chg.refl _ _).alloc _
    have hm1 := MapOf.made Try.prog kStr 9 3 w
    have hs1 : (w.alloc (.map #[] 0)).heap.size = w.heap.size + 1 := by simp
    have k0 := hc1.at h.c0 id
    have k1 := hc1.at h.c1 id
    have kf0 := (hc1.frozen (p := ⟨b, o, none⟩) hbw id).trans h.f0
    have kf1 := (hc1.frozen (p := ⟨b, o + 1, none⟩) hbw id).trans h.f1
    have krow := ownsRow_keep h.row.1 hc1 (fun _ _ => id)
    generalize w.alloc (.map #[] 0) = w1 at hc1 hm1 hs1 k0 k1 kf0 kf1 krow ⊢
    simp [k1, kf1]
    have hc2 : Chg (· = b) w1 (w1.setCell ⟨b, o + 1, none⟩ (.map (some w.heap.size))) := (Chg.refl (· = b) w1).setCell (p := ⟨b, o + 1, none⟩) (Or.inl rfl) _
    have hF : Fr b (fun j => j = o ∨ j = o + 1) (fun i => T i = tx ∨ T i = tm) w (w1.setCell ⟨b, o + 1, none⟩ (.map (some w.heap.size))) := (Fr.of hc1 hbw id (fun _ _ h => h.elim)).trans (Fr.set (Or.inr rfl) _)
    have q0 : (w1.setCell ⟨b, o + 1, none⟩ (.map (some w.heap.size))).cell? ⟨b, o, none⟩ = some v := (World.cell?_setCell_other _ _ _ _ (by simp)).trans k0
    have q1 : (w1.setCell ⟨b, o + 1, none⟩ (.map (some w.heap.size))).cell? ⟨b, o + 1, none⟩ = some (.map (some w.heap.size)) := World.cell?_setCell_same _ _ _ k1
    have qf : ∀ j, (w1.setCell ⟨b, o + 1, none⟩ (.map (some w.heap.size))).frozen? ⟨b, j, none⟩ = w1.frozen? ⟨b, j, none⟩ := fun j => World.frozen?_setCell _ _ _ _
    have qs : (w1.setCell ⟨b, o + 1, none⟩ (.map (some w.heap.size))).heap.size = w1.heap.size := by simp
    have qm := hm1.chg hc2 (fun i hi e => by injection hi with hi; injection hi with hi; omega)
    have qrow := ownsRow_keep krow hc2 (fun i hi e => by
      have := h.row.2 i hi
      rw [e] at this
      exact hbx this)
    generalize w1.setCell ⟨b, o + 1, none⟩ (.map (some w.heap.size)) = w2 at hc2 hF q0 q1 qf qs qm qrow ⊢
    have h2 : Nm w2 (fun i => if i = w.heap.size then tm else T i) b o tx tm v (.map (some w.heap.size)) l := by
      refine ⟨q0, q1, by rw [qf]; exact kf0, by rw [qf]; exact kf1, ⟨qrow, fun i hi => ?_⟩, ?_, fun i hi => ?_⟩
      · have := (ownsRow_block h.row.1 hi).2
        simp [Nat.ne_of_lt this, h.row.2 i hi]
      · rw [hn0.1, hn0.2]; exact qm
      · injection hi with hi; injection hi with hi; simp [hi]
    rw [RESU_ok]
    refine intern2_ok h2 hs hno hl (fun i hi => ?_) hx hm hxm (by simp [Nat.ne_of_lt hbw, hbx]) (by simp [Nat.ne_of_lt hbw, hbm]) fun w' T' v' hN => hR _ _ ⟨rfl, T', v', _, ⟨hN.nm, ?_, fun i hi => ?_, fun i hi => ?_, hN.lt⟩⟩
    · by_cases e : i = w.heap.size
      · omega
      · simp [e] at hi; have := hT i hi; omega
    · refine hF.trans' (hN.fr) (fun i hi hg => ?_)
      simp [Nat.ne_of_lt hi] at hg
      exact hg
    · rw [hN.old i (by omega)]; simp [Nat.ne_of_lt hi]
    · rcases hN.new i hi with e | ⟨e1, e2⟩
      · by_cases e' : i = w.heap.size
        · right
          simp [e'] at e
          exact ⟨by omega, Or.inr (by rw [e']; exact e.symm)⟩
        · simp [e'] at e; exact Or.inl e
      · exact Or.inr ⟨by omega, e2⟩
  · simp [go_sem, h.c0, h.c1]
    rw [map_eq_nil]
    simp [go_sem]
    exact intern2_ok h hs hno hl hT hx hm hxm hbx hbm fun w' T' v' hN => hR _ _ ⟨rfl, T', v', _, hN⟩
end Go.Proofs.Ytmhebgebfjnfjaa
