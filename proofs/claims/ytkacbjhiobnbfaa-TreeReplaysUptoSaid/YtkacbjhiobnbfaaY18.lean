/-
  Texts of this claim: Sh1, Sh2, Sh3a, Sh4, Sh5, Tr7, Sh6, Sh7a, Tr8, Aw1, Aw2.
-/
import Derived.Test.YtkacbjhiobnbfaaY03
import Derived.Test.YtkacbjhiobnbfaaY17
import Derived.Test.YtkacbjhiobnbfaaY11
import Derived.Lib.Builder
import Derived.Lib.UnsafeStr
import Derived.Test.YtkacbjhiobnbfaaY14
import Derived.Test.YtkacbjhiobnbfaaY15
import Derived.Test.YtkacbjhiobnbfaaY12
/-
  A page: a strings.Builder (with a grammar behind it, or alone) in pieces.
-/
namespace Go.Px
open Go.RowKit
/-- A builder with a text, and what lies behind it. -/
def pgC (e t : TypeId) (b : Nat) (vs : List Value) (l : Txt) : Ch := Ch.ex fun x : Value × Option Addr × Nat =>
  Ch.fact (x.1 = .pointer none ∨ x.1 = .pointer (some ⟨b, 0, none⟩)) (Ch.all [boxC b t (x.1 :: .slice x.2.1 l.length x.2.2 :: vs), txtC e x.2.1 l.length x.2.2 l])
end Go.Px
namespace Go.Proofs.Ytkacbjhiobnbfaa
open Go.Px Go.Px.Scan Go.RowKit
set_option maxHeartbeats 1000000
set_option linter.unusedSimpArgs false
set_option linter.unusedVariables false
set_option maxRecDepth 100000
attribute [-go_sem] Builtin.append_

theorem uBytes : Try.prog.underlying 98 = some (.slice 5) := Try.underlying98
theorem iByte : (Try.prog.info? 5).map (fun i => (i.zero, i.size, i.bytes)) = some (some (.int .u8 0), 1, 1) := by kernel_rfl
/-- Where a builder lies. -/
def BT (t : TypeId) (vs : List Value) : Prop := (t = 100 ∧ vs.length = 0) ∨ (t = 102 ∧ vs.length = 5)
theorem lies100 : liesAt Try.prog Try.prog.depth 100 (2 / Try.prog.cellsOf 100) 0 100 1 = true := by kernel_rfl
theorem lies102 : liesAt Try.prog Try.prog.depth 102 (7 / Try.prog.cellsOf 102) 0 100 1 = true := by kernel_rfl
theorem info100 : ∃ j, Try.prog.info? 100 = some j ∧ j.size = 2 := by
  have h : (Try.prog.info? 100).map (·.size) = some 2 := by kernel_rfl
  cases hq : Try.prog.info? 100 with
  | none => rw [hq] at h; cases h
  | some j => rw [hq] at h; exact ⟨j, rfl, by simpa using h⟩
theorem CALL_value {P : Program} {X : Pan} {f : FuncId} {args : Array Value} {w w' : World} {v : Value} {K : Value → World → Prop} (h : (callFunc f args).run P w = .ok (.value v) w') (hk : K v w') : CALL P X f args w K := by
  unfold CALL RUNN
  rw [h]
  exact hk
theorem noEscape_ct (x : Value) (w : World) : (callFunc internal_abi_NoEscape.id #[x]).run Try.prog w = .ok (.value x) w := by
  rfl

section
variable {w : World} {F : Nat → Prop} {t : TypeId} {b : Nat} {vs : List Value} {l : Txt}
theorem copyCheck_ct (h : (pgC 5 t b vs l).ok w F) (ht : BT t vs) : Ct Try.prog strings_Builder_copyCheck.id #[.pointer (some ⟨b, 0, none⟩)] w fun v w' => DoneC F w (pgC 5 t b vs l) w' := by
  refine strings_Builder_copyCheck.ct fun R hR => ?_
  obtain ⟨⟨av, A, c⟩, hav, hp⟩ := h
  have s0 := St.enter hp
  have y0 := s0.box 0 rfl
  simp [boxAt] at y0
  obtain ⟨F0, ho, _⟩ := s0.get (k := 0) rfl
  have hsh : w.shape? b = some (t, 2 + vs.length) := by
    have := ho.2
    simp [World.shape?, this]
    omega
  have fin : ∀ w', St F w w' [boxC b t (.pointer (some ⟨b, 0, none⟩) :: .slice A l.length c :: vs), txtC 5 A l.length c l] → DoneC F w (pgC 5 t b vs l) w' := fun w' hs =>
    DoneC.of_st hs fun F' hok => ⟨(.pointer (some ⟨b, 0, none⟩), A, c), Or.inr rfl, hok⟩
  obtain ⟨j, hj, hj2⟩ := info100
  have e1 : (convert 97 184 (.pointer (some ⟨b, 0, none⟩))).run Try.prog w = .ok (.pointer (some ⟨b, 0, none⟩)) w := Lib.run_to_unsafe w ⟨b, 0, none⟩ Try.underlying97 Try.underlying184 hj (by omega) hsh (by show 0 < 2 + vs.length; omega)
  have e2 : (convert 184 97 (.pointer (some ⟨b, 0, none⟩))).run Try.prog w = .ok (.pointer (some ⟨b, 0, none⟩)) w := by
    refine Lib.run_from_unsafe w ⟨b, 0, none⟩ Try.underlying184 Try.underlying97 hj hsh ?_
    rcases ht with ⟨rfl, hv⟩ | ⟨rfl, hv⟩ <;> rw [hv]
    · exact lies100
    · exact lies102
  unfold strings_Builder_copyCheck.run
  rcases hav with rfl | rfl
  · simp -dsimp [go_sem, y0, e1]
    refine CALL_value (noEscape_ct _ _) ?_
    have h1 := s0.set 0 rfl 0 (.pointer (some ⟨b, 0, none⟩))
    simp -dsimp [go_sem, y0, e2]
    exact hR _ _ (fin _ h1)
  · have e3 := Lib.run_neq_ptr_same w ⟨b, 0, none⟩ Try.underlying97 hj
    simp -dsimp [go_sem, y0, e3]
    exact hR _ _ (fin _ s0)

theorem WriteString_ct (h : (pgC 5 t b vs l).ok w F) (ht : BT t vs) (s : ByteArray) (hb : l.length + s.size ≤ maxBytes) : Ct Try.prog strings_Builder_WriteString.id #[.pointer (some ⟨b, 0, none⟩), .string s] w fun v w' => DoneC F w (pgC 5 t b vs (l ++ tx s)) w' := by
  refine strings_Builder_WriteString.ct fun R hR => ?_
  have s0 := St.one h
  unfold strings_Builder_WriteString.run
  simp -dsimp [go_sem]
  refine CALL_piece s0 0 rfl (fun F' ho _ => copyCheck_ct ho ht) ?_
  intro F1 v1 w1 hd hst
  have s1 := hst _ hd
  obtain ⟨F2, ⟨⟨av, A, c⟩, hav, hp⟩, hF2, hs2⟩ := s1.opn (k := 0) rfl
  have q0 := St.enter hp
  have y0 := q0.box 0 rfl
  simp [boxAt] at y0
  simp -dsimp [go_sem, y0]
  refine q0.txtStr 1 rfl uBytes Try.underlying9 iByte s hb ?_
  intro a' cap w2 q2
  have y2 := q2.box 0 rfl
  simp [boxAt] at y2
  have q3 := q2.set 0 rfl 1 (.slice a' (l.length + s.size) cap)
  simp -dsimp [go_sem, y2]
  have hd2 : DoneC F2 w1 (pgC 5 t b vs (l ++ tx s)) _ := DoneC.of_st q3 fun F' hok => ⟨(av, a', cap), hav, by
    rw [show (l ++ tx s).length = l.length + s.size by rw [List.length_append, tx_len]]
    exact hok⟩
  have s3 := hs2 _ _ hd2.1 hd2.2
  exact hR _ _ s3.oneDone
end
end Go.Proofs.Ytkacbjhiobnbfaa

/-
  A page's words, names and lines.
-/
namespace Go.Proofs.Ytkacbjhiobnbfaa
open Go.Px Go.Px.Scan Go.RowKit
set_option maxHeartbeats 1000000
set_option linter.unusedSimpArgs false
set_option linter.unusedVariables false
set_option maxRecDepth 100000
attribute [-go_sem] Builtin.append_

/-- A page of a grammar. -/
structure Pg (w : World) (F : Nat → Prop) (b : Nat) (vs : List Value) (B : Nat) (g : Gr) (l : Txt) : Prop where
  pg : (pgC 5 102 b vs l).ok w F
  rd : rGram.atN w B (.agg vs.toArray) g
  fr : ∀ i, F i → B ≤ i
  hB : B ≤ w.heap.size
  bd : EBound g
abbrev pgG (b : Nat) (vs : List Value) (l : Txt) : Ch := pgC 5 102 b vs l
theorem Pg.vlen {w : World} {F : Nat → Prop} {b B : Nat} {vs : List Value} {g : Gr} {l : Txt} (h : Pg w F b vs B g l) : vs.length = 5 := by
  obtain ⟨A1, c1, A2, c2, A3, c3, A4, c4, hv, _⟩ := rGram_open h.rd
  injection hv with hv
  rw [← List.size_toArray, hv]; rfl
theorem Pg.bt {w : World} {F : Nat → Prop} {b B : Nat} {vs : List Value} {g : Gr} {l : Txt} (h : Pg w F b vs B g l) : BT 102 vs := Or.inr ⟨rfl, h.vlen⟩
/-- .. behind a call. -/
theorem Pg.next {w w' : World} {F F' : Nat → Prop} {b B : Nat} {vs : List Value} {g : Gr} {l l' : Txt} (h : Pg w F b vs B g l) (hc : Chg F w w') (hp : (pgG b vs l').ok w' F') (hF : ∀ i, F' i → F i ∨ w.heap.size ≤ i) : Pg w' F' b vs B g l' where
  pg := hp
  rd := rGram_below h.rd (hc.below h.hB fun i hi hF => by have := h.fr i hF; omega)
  fr i hi := by rcases hF i hi with e | e; exact h.fr i e; have := h.hB; omega
  hB := Nat.le_trans h.hB hc.size
  bd := h.bd
theorem Pg.done {w w' : World} {F : Nat → Prop} {b B : Nat} {vs : List Value} {g : Gr} {l l' : Txt} (h : Pg w F b vs B g l) (hd : DoneC F w (pgG b vs l') w') : Pg w' (fun i => F i ∨ (w.heap.size ≤ i ∧ i < w'.heap.size)) b vs B g l' := h.next hd.1 hd.2 fun i hi => by rcases hi with e | e; exact Or.inl e; exact Or.inr e.1

theorem ba_empty {s : ByteArray} : s.toList.isEmpty = true ↔ s = ⟨#[]⟩ := by
  rw [ByteArray.toList_eq]
  constructor
  · intro h
    have : tx s = tx ⟨#[]⟩ := by simpa [tx] using h
    exact tx_inj this
  · rintro rfl; rfl
section
variable {w : World} {F : Nat → Prop} {b B : Nat} {vs : List Value} {g : Gr} {l : Txt}
theorem name_ct (h : Pg w F b vs B g l) {s : Int} (hs : isSymP g s) : Ct Try.prog show_page_name.id #[.pointer (some ⟨b, 0, none⟩), .int .i64 s] w fun v w' => v = .string (BA (symT g s)) ∧ w = w' := by
  refine show_page_name.ct fun R hR => ?_
  obtain ⟨A1, c1, A2, c2, A3, c3, A4, c4, hv, h1, h2, h3, hst, h4, k1, k2, k3, k4⟩ := (rGram_open h.rd).ex
  have hvs : vs = [.slice A1 g.terms.length c1, .slice A2 g.nons.length c2, .slice A3 g.levels.length c3, .int .i64 g.start, .slice A4 g.prods.length c4] := by
    injection hv with hv
    have := congrArg Array.toList hv; simpa using this
  obtain ⟨⟨av, A, c⟩, hav, hp⟩ := h.pg
  rw [hvs] at hp
  have s0 := St.enter hp
  have y0 := s0.box 0 rfl
  simp [boxAt] at y0
  obtain ⟨hs1, hs2⟩ := hs
  have b1 := h.bd.t1
  have b2 := h.bd.n1
  unfold show_page_name.run
  simp -dsimp [go_sem, y0]
  refine SPL_intro (fun p => ?_) (fun p => ?_) <;> simp at p
  · subst p
    exact hR _ _ ⟨rfl, rfl⟩
  · obtain ⟨j, rfl⟩ : ∃ j : Nat, s = (j : Int) := ⟨s.toNat, by omega⟩
    simp -dsimp [go_sem]
    refine SPL_intro (fun p2 => ?_) (fun p2 => ?_) <;> simp at p2
    · obtain ⟨b', o, e1, _, x1, _, z1, _⟩ := terms_at h1 p2
      have hsz := h.bd.tnam _ (List.getElem_mem p2)
      subst e1
      have hsy : symT g (j : Int) = [39] ++ tx g.terms[j].1 ++ [39] := by
        unfold symT nameOf
        rw [if_neg (by omega), if_pos (by omega)]
        simp [p2]
      have q1 : ¬ 9223372036854775807 < 1 + g.terms[j].1.size := by omega
      have q2 : ¬ 9223372036854775807 < 1 + g.terms[j].1.size + 1 := by omega
      simp -dsimp [go_sem, y0, p2, x1, q1, q2]
      refine hR _ _ ⟨?_, rfl⟩
      rw [hsy, ← BA_append, ← BA_append, BA_tx]
      rfl
    · obtain ⟨k, rfl⟩ : ∃ k : Nat, j = g.terms.length + k := ⟨j - g.terms.length, by omega⟩
      have hk : k < g.nons.length := by omega
      obtain ⟨b', o, e1, _, x1, z1⟩ := Go.Px.strs_at h2 hk
      subst e1
      have wk : IntKind.i64.wrap (((g.terms.length + k : Nat) : Int) - (g.terms.length : Int)) = (k : Int) := by
        rw [show ((g.terms.length + k : Nat) : Int) - (g.terms.length : Int) = (k : Int) by omega]; exact IntWalk.i64_in _ (by omega)
      have hn : nonAt g ((g.terms.length + k : Nat) : Int) = g.nons[k] := by
        unfold nonAt
        rw [show (((g.terms.length + k : Nat) : Int) - (g.terms.length : Int)).toNat = k by omega]
        simp [hk]
      have hsy : symT g ((g.terms.length + k : Nat) : Int) = if g.nons[k] = ⟨#[]⟩ then tStart else tx g.nons[k] := by
        unfold symT
        rw [if_neg (by omega), if_neg (by omega), hn]
      push_cast at wk
      simp -dsimp [go_sem, y0, wk, hk, x1]
      refine SPL_intro (fun p3 => ?_) (fun p3 => ?_)
      · have p3 := ba_empty.1 p3
        refine hR _ _ ⟨?_, rfl⟩
        rw [hsy, if_pos p3]; rfl
      · simp -dsimp [go_sem, y0, wk, hk, x1]
        refine hR _ _ ⟨?_, rfl⟩
        rw [hsy, if_neg (fun e => by rw [ba_empty.2 e] at p3; cases p3), BA_tx]

attribute [-go_sem] show_page_words.b4 show_page_names.b4
/-- What a call owes of a page. -/
theorem words_ct (h : Pg w F b vs B g l) {u : Value} {ws : List ByteArray} (hu : ∀ w', Chg F w w' → ∃ B', (rSlice rStr).at1 w' B' u ws) (hb : l.length + (wordsT (ws.map tx)).length ≤ maxBytes) :
    Ct Try.prog show_page_words.id #[.pointer (some ⟨b, 0, none⟩), u] w fun v w' => DoneC F w (pgG b vs (l ++ wordsT (ws.map tx))) w' := by
  refine show_page_words.ct fun R hR => ?_
  obtain ⟨A, c, rfl, hl, hm, _⟩ := slice_form (hu w (Chg.refl _ _)).choose_spec
  unfold show_page_words.run
  simp -dsimp [go_sem]
  refine show_page_words.l3_intro _ _ _ _ _ _ (fun y w' => ∃ k : Nat, y = .int .i64 k ∧ k ≤ ws.length ∧ St F w w' [pgG b vs (l ++ wordsT ((ws.take k).map tx))]) (fun y _ => ws.length - iv y) ⟨0, rfl, Nat.zero_le _, by simpa [wordsT] using St.one h.pg⟩ ?_
  rintro _ w1 ⟨k, rfl, hk, hst⟩ C hC
  unfold show_page_words.b4
  simp -dsimp [go_sem]
  refine SPL_intro (fun p => ?_) (fun p => ?_) <;> simp at p
  · obtain ⟨b', o, e1, _, x1, z1⟩ := Go.Px.strs_at (hu w1 hst.chg).choose_spec p
    subst e1
    have htk : ws.take (k + 1) = ws.take k ++ [ws[k]] := List.take_succ_eq_append_getElem p
    have hle := wordsT_take (l := ws.map tx) (k := k) (by simpa using p)
    simp only [List.getElem_map, tx_len, ← List.map_take] at hle
    have wk := wrap_succ p (by omega)
    simp -dsimp [go_sem, p, x1]
    refine CALL_piece hst 0 rfl (fun F' ho hF => WriteString_ct ho h.bt ⟨#[32]⟩ (by rw [List.length_append]; show _ + 1 ≤ _; omega)) ?_
    intro F1 v1 w2 hd hs2
    have s2 := hs2 _ hd
    simp -dsimp [go_sem]
    refine CALL_piece s2 0 rfl (fun F' ho hF => WriteString_ct ho h.bt ws[k] (by rw [List.length_append, List.length_append, tx_len]; show _ + 1 + _ ≤ _; omega)) ?_
    intro F2 v2 w3 hd2 hs3
    have s3 := hs3 _ hd2
    simp -dsimp [go_sem, wk]
    refine hC _ _ ⟨k + 1, by simp, by omega, ?_⟩ (by simp [iv]; omega)
    have e : l ++ wordsT ((ws.take k).map tx) ++ tx ⟨#[32]⟩ ++ tx ws[k] = l ++ wordsT ((ws.take (k + 1)).map tx) := by
      rw [htk, List.map_append, wordsT_append]
      simp [wordsT, tx]
    rw [e] at s3
    exact s3
  · have : k = ws.length := by omega
    subst this
    rw [List.take_length] at hst
    exact hR _ _ hst.oneDone

theorem names_ct (h : Pg w F b vs B g l) {u : Value} {ws : List Int} (hu : ∀ w', Chg F w w' → ∃ B', (rSlice rInt).at1 w' B' u ws) (hs : ∀ s ∈ ws, isSymP g s) (hb : l.length + (namesT g ws).length ≤ maxBytes) :
    Ct Try.prog show_page_names.id #[.pointer (some ⟨b, 0, none⟩), u] w fun v w' => DoneC F w (pgG b vs (l ++ namesT g ws)) w' := by
  refine show_page_names.ct fun R hR => ?_
  obtain ⟨A, c, rfl, hl, hm, _⟩ := slice_form (hu w (Chg.refl _ _)).choose_spec
  unfold show_page_names.run
  simp -dsimp [go_sem]
  refine show_page_names.l3_intro _ _ _ _ _ _ (fun y w' => ∃ k : Nat, y = .int .i64 k ∧ k ≤ ws.length ∧ St F w w' [pgG b vs (l ++ namesT g (ws.take k))]) (fun y _ => ws.length - iv y) ⟨0, rfl, Nat.zero_le _, by simpa [namesT, wordsT] using St.one h.pg⟩ ?_
  rintro _ w1 ⟨k, rfl, hk, hst⟩ C hC
  unfold show_page_names.b4
  simp -dsimp [go_sem]
  refine SPL_intro (fun p => ?_) (fun p => ?_) <;> simp at p
  · obtain ⟨b', o, e1, _, x1, z1⟩ := Go.Px.ints_at (hu w1 hst.chg).choose_spec p
    subst e1
    have htk : ws.take (k + 1) = ws.take k ++ [ws[k]] := List.take_succ_eq_append_getElem p
    have hle := wordsT_take (l := ws.map (symT g)) (k := k) (by simpa using p)
    simp only [List.getElem_map, ← List.map_take] at hle
    have hb' : l.length + (wordsT (ws.map (symT g))).length ≤ maxBytes := hb
    have wk := wrap_succ p (by omega)
    simp -dsimp [go_sem, p, x1]
    refine CALL_piece hst 0 rfl (fun F' ho hF => name_ct (h.next hst.chg ho fun i hi => ?_) (hs _ (List.getElem_mem p))) ?_
    · by_cases e : i < w.heap.size
      · exact Or.inl ((hF i hi).2 e)
      · exact Or.inr (by omega)
    rintro F1 _ _ ⟨rfl, rfl⟩ _
    have hc1 : Chg noB w1 (w1.alloc (.cells #[.string (BA (symT g ws[k]))] 9)) := (Chg.refl _ _).alloc _
    have hsz : (BA (symT g ws[k])).size ≤ maxLen := by rw [BA_size]; have := symT_len h.bd ws[k]; unfold maxLen; omega
    simp -dsimp [go_sem]
    refine CALL_new hst hc1 0 rfl (fun F' ho hF => words_ct ((h.next (hst.chg.trans' hc1 fun _ _ h => h.elim) ho fun i hi => ?_)) (fun w' hc => ⟨_, lit_str (fun i hi => (hF i hi).1) hsz hc⟩) ?_) ?_
    · by_cases e : i < w.heap.size
      · exact Or.inl ((hF i hi).2 e)
      · exact Or.inr (by omega)
    · simp only [List.map_cons, List.map_nil, tx_BA, wordsT, List.flatMap_cons, List.flatMap_nil, List.append_nil, List.length_append, List.length_cons]
      unfold namesT
      omega
    intro F3 v3 w3 hd hs3
    have s3 := hs3 _ hd
    simp -dsimp [go_sem, wk]
    refine hC _ _ ⟨k + 1, by simp, by omega, ?_⟩ (by simp [iv]; omega)
    have e : l ++ namesT g (ws.take k) ++ wordsT ([BA (symT g ws[k])].map tx) = l ++ namesT g (ws.take (k + 1)) := by
      rw [htk, namesT_append, List.append_assoc]
      simp [namesT, wordsT, tx_BA]
    rw [e] at s3
    exact s3
  · have : k = ws.length := by omega
    subst this
    rw [List.take_length] at hst
    exact hR _ _ hst.oneDone
end
end Go.Proofs.Ytkacbjhiobnbfaa

/-
  A page's cells.
-/
namespace Go.Proofs.Ytkacbjhiobnbfaa
open Go.Px Go.Px.Scan Go.RowKit
set_option maxHeartbeats 1000000
set_option linter.unusedSimpArgs false
set_option linter.unusedVariables false
set_option maxRecDepth 100000
section
variable {w : World} {F : Nat → Prop} {b B : Nat} {vs : List Value} {g : Gr} {l : Txt}
theorem Pg.of_st {w' : World} {l' : Txt} (h : Pg w F b vs B g l) {F' : Nat → Prop} (hc : Chg F w w') (ho : (pgG b vs l').ok w' F') (hF : ∀ i, F' i → i < w'.heap.size ∧ (i < w.heap.size → F i)) : Pg w' F' b vs B g l' :=
  h.next hc ho fun i hi => by
    by_cases e : i < w.heap.size
    · exact Or.inl ((hF i hi).2 e)
    · exact Or.inr (by omega)

end
theorem pg_cells {w : World} {F : Nat → Prop} {t : TypeId} {b : Nat} {vs : List Value} {l : Txt} (h : (pgC 5 t b vs l).ok w F) : boxAt w b 2 vs := by
  obtain ⟨⟨av, A, c⟩, hav, hp⟩ := h
  exact ((St.enter hp).box 0 rfl).1.2.2
section
variable {w : World} {F : Nat → Prop} {b B : Nat} {vs : List Value} {g : Gr} {l : Txt}
theorem Pg.cells (h : Pg w F b vs B g l) : ∃ A1 c1 A2 c2 A3 c3 A4 c4, vs = [.slice A1 g.terms.length c1, .slice A2 g.nons.length c2, .slice A3 g.levels.length c3, .int .i64 g.start, .slice A4 g.prods.length c4] ∧
    (rSlice rTerm).at1 w B (.slice A1 g.terms.length c1) g.terms ∧ (rSlice rStr).at1 w B (.slice A2 g.nons.length c2) g.nons ∧ (rSlice rInt).at1 w B (.slice A3 g.levels.length c3) g.levels ∧ inI64 g.start ∧ (rSlice rPr).at1 w B (.slice A4 g.prods.length c4) g.prods := by
  obtain ⟨A1, c1, A2, c2, A3, c3, A4, c4, hv, h1, h2, h3, hst, h4, k1, k2, k3, k4⟩ := (rGram_open h.rd).ex
  refine ⟨A1, c1, A2, c2, A3, c3, A4, c4, ?_, h1, h2, h3, hst, h4⟩
  injection hv with hv
  have := congrArg Array.toList hv; simpa using this

end
end Go.Proofs.Ytkacbjhiobnbfaa

/-
  show.open; Symbol, Row, Prod, Item.
-/
namespace Go.Proofs.Ytkacbjhiobnbfaa
open Go.Px Go.Px.Scan Go.RowKit
set_option maxHeartbeats 1000000
set_option linter.unusedSimpArgs false
set_option linter.unusedVariables false
set_option maxRecDepth 100000
attribute [-go_sem] Builtin.append_

theorem pg_of_box {w : World} {F : Nat → Prop} {t : TypeId} {b : Nat} {vs : List Value} (h : (boxC b t (.pointer none :: .slice none 0 0 :: vs)).ok w F) : (pgC 5 t b vs []).ok w F := by
  have s0 := (St.one h).nilTxt 5
  obtain ⟨T, hT, hk⟩ := s0.all
  exact ⟨(.pointer none, none, 0), Or.inl rfl, T, fun i hi => ⟨(hT i hi).1 (hT i hi).2, (hT i hi).2⟩, hk⟩
theorem bPage (A1 A2 A3 A4 : Option Addr) (n1 c1 n2 c2 n3 c3 n4 c4 : Nat) (s : Int) (w : World) : (Instr.build 102 #[(1, .agg #[.slice A1 n1 c1, .slice A2 n2 c2, .slice A3 n3 c3, .int .i64 s, .slice A4 n4 c4])]).run Try.prog w = .ok (.agg #[.pointer none, .slice none 0 0, .slice A1 n1 c1, .slice A2 n2 c2, .slice A3 n3 c3, .int .i64 s, .slice A4 n4 c4]) w := by simp [go_sem]
attribute [go_sem ↓] bPage

theorem open_ct {w : World} {B : Nat} {vg : Value} {g : Gr} (h : rGram.atN w B vg g) (hB : B ≤ w.heap.size) : Ct Try.prog show_open.id #[vg] w fun v w' => ∃ b vs, v = .tuple #[.pointer (some ⟨b, 0, none⟩), .bool (eitherB g)] ∧ vg = .agg vs.toArray ∧ St noB w w' [pgG b vs []] := by
  refine show_open.ct fun R hR => ?_
  obtain ⟨A1, c1, A2, c2, A3, c3, A4, c4, rfl, h1, h2, h3, hst, h4, k1, k2, k3, k4⟩ := (rGram_open h).ex
  have s0 := (St.refl noB w).alloc #[.slice A1 g.terms.length c1, .slice A2 g.nons.length c2, .slice A3 g.levels.length c3, .int .i64 g.start, .slice A4 g.prods.length c4] 27
  unfold show_open.run
  simp -dsimp [go_sem]
  generalize hq : w.heap.size = q at s0 ⊢
  generalize hw1 : w.alloc (.cells #[.slice A1 g.terms.length c1, .slice A2 g.nons.length c2, .slice A3 g.levels.length c3, .int .i64 g.start, .slice A4 g.prods.length c4] 27) = w1 at s0 ⊢
  have y0 := s0.box 0 rfl
  simp [boxAt] at y0
  have hg1 : rGram.atN w1 B _ g := rGram_below h (s0.chg.below hB fun _ _ => id)
  have hB1 : B ≤ w1.heap.size := by have := s0.chg.size; omega
  have fin : ∀ (b : Nat) (x : Bool) (w' : World), x = eitherB g → St noB w w' ([boxC q 27 [.slice A1 g.terms.length c1, .slice A2 g.nons.length c2, .slice A3 g.levels.length c3, .int .i64 g.start, .slice A4 g.prods.length c4], boxC b 102 [.pointer none, .slice none 0 0, .slice A1 g.terms.length c1, .slice A2 g.nons.length c2, .slice A3 g.levels.length c3, .int .i64 g.start, .slice A4 g.prods.length c4]]) →
      R (.returned (.tuple #[.pointer (some ⟨b, 0, none⟩), .bool x])) w' := by
    intro b x w' hx hs
    refine hR _ _ ⟨b, [.slice A1 g.terms.length c1, .slice A2 g.nons.length c2, .slice A3 g.levels.length c3, .int .i64 g.start, .slice A4 g.prods.length c4], by rw [hx], rfl, ?_⟩
    have h1 : St noB w w' [boxC b 102 (.pointer none :: .slice none 0 0 :: [.slice A1 g.terms.length c1, .slice A2 g.nons.length c2, .slice A3 g.levels.length c3, .int .i64 g.start, .slice A4 g.prods.length c4])] := hs.pick [1] (by decide) rfl
    exact h1.turn (k := 0) rfl fun F ho => pg_of_box ho
  have he : eitherB g = (validB g || closedB g) := rfl
  have hq1 : w1.heap.size = q + 1 := by rw [← hw1, ← hq]; simp
  obtain ⟨gv, hgv⟩ : ∃ gv : Value, gv = .agg #[.slice A1 g.terms.length c1, .slice A2 g.nons.length c2, .slice A3 g.levels.length c3, .int .i64 g.start, .slice A4 g.prods.length c4] := ⟨_, rfl⟩
  constructor
  · have s1 := (s0.old (Chg.refl noB _).drew).alloc #[.pointer none, .slice none 0 0, .slice A1 g.terms.length c1, .slice A2 g.nons.length c2, .slice A3 g.levels.length c3, .int .i64 g.start, .slice A4 g.prods.length c4] 102
    have s1' := s1
    have hg2 : rGram.atN _ B _ g := rGram_below h (s1'.chg.below hB fun _ _ => id)
    have hB2 := s1'.chg.size
    rw [show w1.drew.heap.size = q + 1 from hq1] at s1'
    have ew : w1.drew.alloc (.cells #[.pointer none, .slice none 0 0, .slice A1 g.terms.length c1, .slice A2 g.nons.length c2, .slice A3 g.levels.length c3, .int .i64 g.start, .slice A4 g.prods.length c4] 102) = (w1.alloc (.cells #[.pointer none, .slice none 0 0, .slice A1 g.terms.length c1, .slice A2 g.nons.length c2, .slice A3 g.levels.length c3, .int .i64 g.start, .slice A4 g.prods.length c4] 102)).drew := by simp [go_sem]
    rw [ew] at s1' hg2 hB2
    generalize (w1.alloc (.cells #[.pointer none, .slice none 0 0, .slice A1 g.terms.length c1, .slice A2 g.nons.length c2, .slice A3 g.levels.length c3, .int .i64 g.start, .slice A4 g.prods.length c4] 102)).drew = w2 at s1' hg2 hB2 ⊢
    refine CALL_of (Valid_ct hg2 (by omega)) ?_
    rintro _ w3 ⟨rfl, hc3⟩
    have s3 := s1'.old hc3
    refine SPL_intro (fun p => ?_) (fun p => ?_)
    · exact fin _ _ _ (by rw [he, p]; rfl) s3
    · have y3 := s3.box 0 rfl
      simp [boxAt] at y3
      simp -dsimp [go_sem, y3]
      have hg3 : rGram.atN w3 B _ g := rGram_below h (s3.chg.below hB fun _ _ => id)
      refine CALL_of (Closed_ct hg3 (by have := s3.chg.size; omega)) ?_
      rintro _ w4 ⟨rfl, hc4⟩
      exact fin _ _ _ (by rw [he, p]; rfl) (s3.old hc4)
  · have s1 := s0.old (Chg.refl noB _).drew
    have hg2 : rGram.atN _ B _ g := rGram_below h (s1.chg.below hB fun _ _ => id)
    have hB2 := s1.chg.size
    generalize w1.drew = w2 at s1 hg2 hB2 ⊢
    refine CALL_of (Valid_ct hg2 (by omega)) ?_
    rintro _ w3 ⟨rfl, hc3⟩
    have s3 := s1.old hc3
    have y3 := s3.box 0 rfl
    simp [boxAt] at y3
    have hg3 : rGram.atN w3 B _ g := rGram_below h (s3.chg.below hB fun _ _ => id)
    simp -dsimp [go_sem, y3]
    refine SPL_intro (fun p => ?_) (fun p => ?_)
    · have s4 := s3.alloc #[.pointer none, .slice none 0 0, .slice A1 g.terms.length c1, .slice A2 g.nons.length c2, .slice A3 g.levels.length c3, .int .i64 g.start, .slice A4 g.prods.length c4] 102
      simp -dsimp [go_sem]
      exact fin _ _ _ (by rw [he, p]; rfl) s4
    · have s4 := s3.alloc #[.pointer none, .slice none 0 0, .slice A1 g.terms.length c1, .slice A2 g.nons.length c2, .slice A3 g.levels.length c3, .int .i64 g.start, .slice A4 g.prods.length c4] 102
      simp -dsimp [go_sem, y3]
      constructor
      · have hg4 : rGram.atN _ B _ g := rGram_below h (s4.chg.below hB fun _ _ => id)
        have hB4 := s4.chg.size
        generalize w3.alloc (.cells #[.pointer none, .slice none 0 0, .slice A1 g.terms.length c1, .slice A2 g.nons.length c2, .slice A3 g.levels.length c3, .int .i64 g.start, .slice A4 g.prods.length c4] 102) = w4 at s4 hg4 hB4 ⊢
        have y4 := s4.box 0 rfl
        simp [boxAt] at y4
        refine CALL_of (Closed_ct hg4 (by omega)) ?_
        rintro _ w5 ⟨rfl, hc5⟩
        exact fin _ _ _ (by rw [he, p]; rfl) (s4.old hc5)
      · refine CALL_of (Closed_ct hg3 (by have := s3.chg.size; omega)) ?_
        rintro _ w5 ⟨rfl, hc5⟩
        have s5 := s3.old hc5
        have y5 := s5.box 0 rfl
        simp [boxAt] at y5
        have s6 := s5.alloc #[.pointer none, .slice none 0 0, .slice A1 g.terms.length c1, .slice A2 g.nons.length c2, .slice A3 g.levels.length c3, .int .i64 g.start, .slice A4 g.prods.length c4] 102
        simp -dsimp [go_sem, y5]
        exact fin _ _ _ (by rw [he, p]; rfl) s6
end Go.Proofs.Ytkacbjhiobnbfaa

/-
  A builder's text.
-/
namespace Go.Proofs.Ytkacbjhiobnbfaa
open Go.Px Go.Px.Scan Go.RowKit
set_option maxHeartbeats 1000000
set_option linter.unusedSimpArgs false
set_option linter.unusedVariables false
set_option maxRecDepth 100000
attribute [-go_sem] Builtin.append_

section
variable {w : World} {F : Nat → Prop} {t : TypeId} {b : Nat} {vs : List Value} {l : Txt}

theorem txt_froze {w : World} {F : Nat → Prop} {g c : Nat} {l : Txt} {a : Option Addr} (h : (txtC 5 a l.length c l).ok w F) (ha : a = some ⟨g, 0, none⟩) : Chg F w (w.freeze ⟨g, 0, none⟩ l.length) ∧ (txtC 5 a l.length c l).ok (w.freeze ⟨g, 0, none⟩ l.length) F := by
  rcases h.2 with ⟨h0, _⟩ | ⟨g', cur, fz, ha', hF, hg, hfz, hnc, hcm, hcs, htake⟩
  · rw [ha] at h0; cases h0
  rw [ha] at ha'
  injection ha' with ha'; injection ha' with ha'
  subst ha'
  unfold World.freeze
  split
  · exact ⟨Chg.refl _ _, h⟩
  · refine ⟨⟨rfl, rfl, rfl, by simp, fun k hk hn => ?_⟩, rfl, ?_⟩
    · simp only [Array.getElem?_modify]
      rw [if_neg (by intro e; subst e; exact hn hF)]
    · obtain ⟨lo, hi⟩ := fz
      refine .inr ⟨g, cur, (if lo == hi then (0, 0 + l.length) else (min lo 0, max hi (0 + l.length))), ha, hF, ?_, Or.inl ?_, hnc, hcm, hcs, htake⟩
      · simp [Array.getElem?_modify, hg]
      · have hfz : hi ≤ l.length := by rcases hfz with h | h; exact h; cases h.1
        split <;> simp <;> omega

theorem String_ct (h : (pgC 5 t b vs l).ok w F) : Ct Try.prog strings_Builder_String.id #[.pointer (some ⟨b, 0, none⟩)] w fun v w' => v = .string (BA l) ∧ DoneC F w (pgC 5 t b vs l) w' := by
  refine strings_Builder_String.ct fun R hR => ?_
  obtain ⟨⟨av, A, c⟩, hav, hp⟩ := h
  have s0 := (St.enter hp).old (Chg.refl noB _).drew
  have y0 := s0.box 0 rfl
  simp [boxAt] at y0
  have fin : ∀ w' : World, St F w w' [boxC b t (av :: .slice A l.length c :: vs), txtC 5 A l.length c l] → DoneC F w (pgC 5 t b vs l) w' := fun w' hs =>
    DoneC.of_st hs fun F' hok => ⟨(av, A, c), hav, hok⟩
  obtain ⟨_, hnc, hcm, hnil⟩ := s0.txtSize 1 rfl
  unfold strings_Builder_String.run
  simp -dsimp [go_sem, y0]
  generalize w.drew = w1 at s0 ⊢
  clear y0
  have y0 := s0.box 0 rfl
  simp [boxAt] at y0
  dsimp only at hnc hcm hnil
  cases A with
  | none =>
    obtain ⟨h0, hc0⟩ := hnil rfl
    have hl : l = [] := List.length_eq_zero_iff.1 h0
    subst hl; subst hc0
    rw [Lib.run_unsafeSliceData_nil, RES_ok]
    simp -dsimp [go_sem, y0]
    rw [Lib.run_unsafeString_none, RES_ok]
    exact hR _ _ ⟨rfl, fin _ s0⟩
  | some a =>
    obtain ⟨F1, ho, _, hs1⟩ := s0.opn (k := 1) rfl
    rcases ho.2 with ⟨hv, _⟩ | ⟨g, cur, fz, hv, hFg, hg, hfz, hnc', hcm', hcs, htake⟩
    · cases hv
    injection hv with hv1
    subst hv1
    by_cases hl : l = []
    · subst hl
      by_cases hc0 : c = 0
      · subst hc0
        have hsh : w1.shape? g = some (5, cur.size) := by simp [World.shape?, hg]
        rw [Lib.run_unsafeSliceData_zero w1 _ 155 5 Try.underlying155 ⟨g, 0, none⟩ _ _ hsh, RES_ok]
        have s2 := s0.old (Chg.alloc (Chg.refl noB _) (.view ⟨g, 0, none⟩ 5))
        have y2 := s2.box 0 rfl
        generalize w1.alloc (.view ⟨g, 0, none⟩ 5) = w2 at s2 y2 ⊢
        simp [boxAt] at y2
        simp -dsimp [go_sem, y2]
        rw [Lib.run_unsafeString_none, RES_ok]
        exact hR _ _ ⟨rfl, fin _ s2⟩
      · rw [Lib.run_unsafeSliceData_row w1 _ _ _ _ _ hc0, RES_ok]
        simp -dsimp [go_sem, y0]
        rw [Lib.run_unsafeString_none, RES_ok]
        exact hR _ _ ⟨rfl, fin _ s0⟩
    · have hpos : 0 < l.length := List.length_pos_iff.2 hl
      have hc0 : c ≠ 0 := by omega
      rw [Lib.run_unsafeSliceData_row w1 _ _ _ _ _ hc0, RES_ok]
      have hsh : w1.shape? g = some (5, cur.size) := by simp [World.shape?, hg]
      have hu := Lib.run_unsafeString_row w1 155 3 9 5 Try.underlying155 (by kernel_rfl) g cur.size hsh l hl (by simp at hcs; omega) (by unfold maxLen at hcm; omega) (fun j x hj => txt_cells hg htake j _ (by simp [byC, hj]))
      simp -dsimp [go_sem, y0, hu]
      have hfr := txt_froze ho rfl
      have s2 := hs1 _ _ hfr.1 ((txtC 5 (some ⟨g, 0, none⟩) l.length c l).keep hfr.2 (Chg.refl noB _) (fun _ _ _ => id) fun _ _ e => Or.inl e)
      exact hR _ _ ⟨rfl, fin _ s2⟩
end
end Go.Proofs.Ytkacbjhiobnbfaa

/-
  tree: Text, one node.
-/
namespace Go.Px.Scan
open Go.Px Go.RowKit
def textC (bb ob : Nat) (s : Txt × List Nat) : Ch := Ch.ex fun x : Option Addr × Nat => Ch.all [pgC 5 100 bb [] s.1, boxC ob 24 [.slice x.1 s.2.length x.2], rowC 3 1 x.1 s.2.length x.2 (natV s.2.reverse)]
theorem BA_get (t : Txt) (i : Nat) (h : i < (BA t).size) : (BA t)[i]'h = t[i]'(by rw [BA_size] at h; exact h) := rfl
theorem symT_ne (g : Gr) (s : Int) : symT g s ≠ [] := by
  unfold symT
  split
  · simp [tEnd]
  · split
    · simp
    · split
      · simp [tStart]
      · rename_i h
        intro e
        exact h (by have := congrArg BA e; rw [BA_tx] at this; exact this)
theorem looks_inv {σ : Type} {V : σ → Nat → Option σ} (P : σ → Prop) (hs : ∀ s n s', P s → V s n = some s' → P s') : ∀ (r : List Nat) (s0 s : σ), P s0 → looks V s0 r = some s → P s
  | [], s0, s, h0, h => by
    have : s0 = s := by simpa [looks] using h
    subst this; exact h0
  | n :: r, s0, s, h0, h => by
    have e : looks V s0 (n :: r) = (V s0 n).bind fun s' => looks V s' r := by
      cases hv : V s0 n with
      | none => simp [looks, hv, looks_none]
      | some s' => simp [looks, hv]
    rw [e] at h
    cases hv : V s0 n with
    | none => rw [hv] at h; cases h
    | some s' =>
      rw [hv] at h
      exact looks_inv P hs r s' s (hs _ _ _ h0 hv) h
theorem closeF_le {M : Nat} : ∀ (o : List Nat) (t : Txt), (∀ k ∈ o, k ≤ M) → ∀ k ∈ (closeF o t).2, k ≤ M
  | [], t, _ => by simp [closeF]
  | k :: o, t, h => by
    unfold closeF
    split
    · intro j hj
      rcases List.mem_cons.1 hj with rfl | hj
      · have := h k (by simp); omega
      · exact h j (by simp [hj])
    · exact closeF_le o _ fun j hj => h j (by simp [hj])
theorem textV_olen {nm : Int → Txt} {N : Nat} {l : List Nd} {s s' : Txt × List Nat} {n : Nat} (h : textV nm N l s n = some s') : s'.2.length ≤ s.2.length + 1 := by
  unfold textV at h
  split at h
  · injection h with h; subst h
    unfold stepN
    split
    · have := closeF_len (((l.getD n zN).2.2.2.length + 1) :: s.2) (spaceT s.1 s.2 ++ nm (l.getD n zN).1 ++ [40])
      simp only [List.length_cons] at this; omega
    · have := closeF_len s.2 (spaceT s.1 s.2 ++ nm (l.getD n zN).1)
      omega
  · cases h
theorem textV_le {nm : Int → Txt} {N M : Nat} {l : List Nd} (hM : ∀ x ∈ l, x.2.2.2.length + 1 ≤ M) (h1 : 1 ≤ M) {s s' : Txt × List Nat} {n : Nat} (h0 : ∀ k ∈ s.2, k ≤ M) (h : textV nm N l s n = some s') : ∀ k ∈ s'.2, k ≤ M := by
  unfold textV at h
  split at h
  · injection h with h; subst h
    unfold stepN
    split
    · refine closeF_le _ _ fun k hk => ?_
      rcases List.mem_cons.1 hk with rfl | hk
      · by_cases hn : n < l.length
        · have := hM _ (List.getElem_mem hn); simpa [hn] using this
        · simp [hn, zN]; omega
      · exact h0 k hk
    · exact closeF_le _ _ h0
  · cases h
end Go.Px.Scan
namespace Go.Proofs.Ytkacbjhiobnbfaa
open Go.Px Go.Px.Scan Go.RowKit
set_option maxHeartbeats 1000000
set_option linter.unusedSimpArgs false
set_option linter.unusedVariables false
set_option maxRecDepth 100000
attribute [-go_sem] Builtin.append_ tree_Text_1.b3 tree_Text_1.b3_1 tree_Text_1.b3_2 tree_Text_1.b10 tree_Text_1.b9_1 tree_Text_1.b9_2 tree_Text_1.b8_1

/-- The closing of what is done. -/
theorem close_ok {F : Nat → Prop} {w0 w : World} {bb ob : Nat} {X : Ch} {a : Option Addr} {cw : Nat} {t : Txt} {o : List Nat} {R : Ending → World → Prop}
    (st : St F w0 w [pgC 5 100 bb [] t, boxC ob 24 [.slice a o.length cw], rowC 3 1 a o.length cw (natV o.reverse), X]) (hM : ∀ k ∈ o, k ≤ 20000000000000) (hb : t.length + o.length ≤ maxBytes)
    (hR : ∀ w' a' cw', St F w0 w' [pgC 5 100 bb [] (closeF o t).1, boxC ob 24 [.slice a' (closeF o t).2.length cw'], rowC 3 1 a' (closeF o t).2.length cw' (natV (closeF o t).2.reverse), X] → R (.returned (.bool true)) w') :
    tree_Text_1.l7 R (.pointer (some ⟨bb, 0, none⟩)) (.pointer (some ⟨ob, 0, none⟩)) w := by
  let K : World → Nat → Prop := fun w f => ∃ (t' : Txt) (o' : List Nat) (a' : Option Addr) (cw' : Nat), o'.length = f ∧ closeF o' t' = closeF o t ∧ (∀ k ∈ o', k ≤ 20000000000000) ∧ t'.length + o'.length ≤ maxBytes ∧ St F w0 w [pgC 5 100 bb [] t', boxC ob 24 [.slice a' o'.length cw'], rowC 3 1 a' o'.length cw' (natV o'.reverse), X]
  refine tree_Text_1.l7_intro _ _ _ _ (fun w => ∃ f, K w f) (muOf K) ⟨_, t, o, a, cw, rfl, rfl, hM, hb, st⟩ ?_
  intro w1 hJ C hC
  obtain ⟨t', o', a', cw', hf, hcl, hM', hb', s1⟩ := muOf_at hJ
  have hC' : ∀ w2 f', K w2 f' → f' < muOf K w1 → C w2 := fun w2 f' h1 h2 => hC w2 ⟨f', h1⟩ (Nat.lt_of_le_of_lt (muOf_le h1) h2)
  clear hC
  generalize muOf K w1 = u at hf hC'
  clear hJ
  have y := s1.box 1 rfl
  simp [boxAt] at y
  cases o' with
  | nil =>
    simp -dsimp [go_sem, y]
    refine hR _ a' cw' ?_
    rw [← hcl]
    exact s1
  | cons k o' =>
    have hk := hM' k (by simp)
    simp only [List.length_cons] at hb'
    have wl : IntKind.i64.wrap (o'.length : Int) = o'.length := IntWalk.i64_in _ (by unfold maxBytes at hb'; omega)
    have xl : (o'.length : Int) < (o'.length : Int) + 1 := by omega
    have hz : 0 < o'.length + 1 := by omega
    have wk : IntKind.i64.wrap ((k : Int) - 1) = (k : Int) - 1 := IntWalk.i64_in _ (by omega)
    obtain ⟨g, eg, cg, fg⟩ := s1.rowAt 2 rfl (j := o'.length) (by simp [natV])
    have cg' : (natV (k :: o').reverse)[o'.length]'(by simp [natV]) = .int .i64 k := by simp [natV]
    rw [cg'] at cg
    subst eg
    have s2 := s1.setRow 2 rfl o'.length (.int .i64 ((k : Int) - 1))
    have e2 : (natV (k :: o').reverse).set o'.length (.int .i64 ((k : Int) - 1)) = natV o'.reverse ++ [Value.int .i64 ((k : Int) - 1)] := by
      simp [natV, List.map_append]
    rw [e2] at s2
    simp -dsimp [go_sem, y, wl, xl, cg, wk, fg]
    generalize w1.setCell ⟨g, o'.length, none⟩ (.int .i64 ((k : Int) - 1)) = w2 at s2 ⊢
    have y2 := s2.box 1 rfl
    simp [boxAt] at y2
    have hcw : o'.length + 1 ≤ cw' := (s2.rowSize 2 rfl).2.1
    refine SPL_intro (fun p1 => ?_) (fun p1 => ?_) <;> simp at p1
    · simp -dsimp [go_sem]
      refine hR _ (some ⟨g, 0, none⟩) cw' ?_
      have e3 : closeF o t = (t', (k - 1) :: o') := by rw [← hcl, closeF, if_pos (by omega)]
      rw [e3]
      have e4 : natV ((k - 1) :: o').reverse = natV o'.reverse ++ [Value.int .i64 ((k : Int) - 1)] := by
        simp [natV]; omega
      show St F w0 w2 [pgC 5 100 bb [] t', boxC ob 24 [.slice (some ⟨g, 0, none⟩) ((k - 1) :: o').length cw'], rowC 3 1 (some ⟨g, 0, none⟩) ((k - 1) :: o').length cw' (natV ((k - 1) :: o').reverse), X]
      rw [e4]
      exact s2
    · refine CALL_piece s2 0 rfl (fun F' ho _ => WriteString_ct ho (Or.inl ⟨rfl, rfl⟩) ⟨#[41]⟩ (by show t'.length + 1 ≤ _; omega)) ?_
      intro F3 v3 w3 hd hst
      have s3 := hst _ hd
      unfold tree_Text_1.b8_1
      have y3 := s3.box 1 rfl
      simp [boxAt] at y3
      have hcw' : o'.length ≤ cw' := by omega
      have s4 := s3.set 1 rfl 0 (.slice (some ⟨g, 0, none⟩) o'.length cw')
      have s5 := s4.popRow 2 (n := o'.length) (xs := natV o'.reverse) (last := [Value.int .i64 ((k : Int) - 1)]) rfl (by simp [natV])
      simp -dsimp [go_sem, y3, wl, xl, hcw']
      refine hC' _ o'.length ⟨t' ++ [41], o', some ⟨g, 0, none⟩, cw', rfl, ?_, fun j hj => hM' j (by simp [hj]), by simp; omega, s5⟩ (by simp at hf; omega)
      rw [← hcl, closeF, if_neg (by omega)]

theorem Text1_ok {W : World} {B bb ob xb nr T : Nat} {l : List Nd} {nm : Int → Txt} (hN : l.length ≤ 3000000000000) (hB : B ≤ W.heap.size) (hkd : ∀ x ∈ l, x.2.2.2.length * 8 ≤ maxBytes)
    (hx8 : W.cell? ⟨xb, 0, none⟩ = some (.slice (some ⟨nr, 0, none⟩) T T)) (hxs : xb < W.heap.size) (hnr : ∀ i : Nat, i < T → W.cell? ⟨nr, i, none⟩ = some (.string (BA (nm i)))) (hns : nr < W.heap.size) (hT : T ≤ 1000000)
    (h18 : ∀ s, (nm s).length ≤ 18) (hne : ∀ s, nm s ≠ []) :
    VisOk W B l (textC bb ob) (textV nm T l) ([], []) tree_Text_1.id [.pointer (some ⟨xb, 0, none⟩), .pointer (some ⟨bb, 0, none⟩), .pointer (some ⟨ob, 0, none⟩)] := by
  intro w L k s n r vx st hk hlk hnd hlt hok hvx
  have hrl := visit_lt hnd hlt
  have hsl : s.1.length + s.2.length ≤ 0 + 21 * r.length := looks_bound (fun s : Txt × List Nat => s.1.length + s.2.length) (fun s n s' h => (textV_len h18 hne h).1) r _ _ hlk
  have hol : s.2.length ≤ 0 + 1 * r.length := looks_bound (fun s : Txt × List Nat => s.2.length) (fun s n s' h => textV_olen h) r _ _ hlk
  have hs0 : s.2 ≠ [] → s.1 ≠ [] := looks_inv (fun s : Txt × List Nat => s.2 ≠ [] → s.1 ≠ []) (fun s n s' _ h _ => (textV_len h18 hne h).2) r _ _ (fun h => absurd rfl h) hlk
  have hle : ∀ k ∈ s.2, k ≤ 17600000000000 := looks_inv (fun s : Txt × List Nat => ∀ k ∈ s.2, k ≤ 17600000000000) (fun s n s' h0 h => textV_le (fun x hx => by have := hkd x hx; unfold maxBytes at this; omega) (by omega) h0 h) r _ _ (by simp) hlk
  have hBw : B ≤ w.heap.size := by have := st.chg.size; omega
  obtain ⟨F, ⟨a, cw⟩, si, hch, hback⟩ := st.inEx hk
  refine tree_Text_1.ct fun R hR => ?_
  unfold textV at hR
  have hxk : (l.getD n zN).2.2.2.length ≤ 17592186044416 := by
    by_cases hn : n < l.length
    · have := hkd _ (List.getElem_mem hn); unfold maxBytes at this; simp [hn]; omega
    · simp [hn, zN]
  obtain ⟨A, c, rfl, hkr, z1, z2, z3⟩ := nd_form hvx
  obtain ⟨t, o⟩ := s
  simp only at *
  generalize hx : l.getD n zN = x at *
  obtain ⟨sy, pr, tk, ks⟩ := x
  simp only at *
  have hsy : 0 ≤ sy := hok.1
  have s1 := si.alloc #[.int .i64 sy, .int .i64 pr, .int .i64 tk, .slice A ks.length c] 61
  have hc1 : Chg noB w (w.alloc (.cells #[.int .i64 sy, .int .i64 pr, .int .i64 tk, .slice A ks.length c] 61)) := (Chg.refl noB w).alloc _
  have rd : ∀ {w'}, Chg noB W w' → ∀ {p : Addr} {u}, W.cell? p = some u → p.block < W.heap.size → w'.cell? p = some u := fun {w'} hc {p} {u} hp hlt => (Chg.cell hc hlt id).trans hp
  have hW1 : Chg noB W (w.alloc (.cells #[.int .i64 sy, .int .i64 pr, .int .i64 tk, .slice A ks.length c] 61)) := hch _ _ s1
  have x1 := rd hW1 hx8 hxs
  unfold tree_Text_1.run
  simp -dsimp [go_sem, x1]
  clear x1
  generalize w.heap.size = q at s1 ⊢
  generalize w.alloc (.cells #[.int .i64 sy, .int .i64 pr, .int .i64 tk, .slice A ks.length c] 61) = w1 at s1 hc1 hW1 ⊢
  refine SPL_intro (fun p1 => ?_) (fun p1 => ?_) <;> simp at p1
  · refine hR _ _ ?_
    rw [if_neg (by omega)]
    exact ⟨rfl, hW1⟩
  · rw [if_pos p1] at hR
    unfold tree_Text_1.b9
    refine CALL_piece s1 0 rfl (fun F' ho _ => String_ct ho) ?_
    rintro F2 _ w2 ⟨rfl, hd2⟩ hst2
    have s2 := hst2 _ hd2
    have hR2 : ∀ w' a' cw', St F w w' [pgC 5 100 bb [] (stepN nm (sy, pr, tk, ks) (spaceT t o) o).1, boxC ob 24 [.slice a' (stepN nm (sy, pr, tk, ks) (spaceT t o) o).2.length cw'], rowC 3 1 a' (stepN nm (sy, pr, tk, ks) (spaceT t o) o).2.length cw' (natV (stepN nm (sy, pr, tk, ks) (spaceT t o) o).2.reverse), boxC q 61 [.int .i64 sy, .int .i64 pr, .int .i64 tk, .slice A ks.length c]] → R (.returned (.bool true)) w' := by
      intro w' a' cw' hs
      refine hR _ _ ⟨rfl, ?_⟩
      exact hback _ (fun x => [pgC 5 100 bb [] (stepN nm (sy, pr, tk, ks) (spaceT t o) o).1, boxC ob 24 [.slice x.1 (stepN nm (sy, pr, tk, ks) (spaceT t o) o).2.length x.2], rowC 3 1 x.1 (stepN nm (sy, pr, tk, ks) (spaceT t o) o).2.length x.2 (natV (stepN nm (sy, pr, tk, ks) (spaceT t o) o).2.reverse)]) (a', cw') (hs.take 3)
    clear hR hback
    have hspl : (spaceT t o).length ≤ t.length + 1 := by unfold spaceT; split <;> simp
    -- from the name on
    have b3 : ∀ w', St F w w' [pgC 5 100 bb [] (spaceT t o), boxC ob 24 [.slice a o.length cw], rowC 3 1 a o.length cw (natV o.reverse), boxC q 61 [.int .i64 sy, .int .i64 pr, .int .i64 tk, .slice A ks.length c]] →
        tree_Text_1.b3 R (.pointer (some ⟨xb, 0, none⟩)) (.pointer (some ⟨bb, 0, none⟩)) (.pointer (some ⟨ob, 0, none⟩)) (.pointer (some ⟨q, 0, none⟩)) w' := by
      intro w3 s3
      have hW3 := hch _ _ s3
      have x3 := rd hW3 hx8 hxs
      have y3 := s3.box 3 rfl
      simp [boxAt] at y3
      obtain ⟨j, rfl⟩ : ∃ j : Nat, sy = j := ⟨sy.toNat, by omega⟩
      have hj : j < T := by omega
      have xn := rd hW3 (hnr j hj) hns
      unfold tree_Text_1.b3
      simp -dsimp [go_sem, x3, y3, hj, xn]
      have hnl := h18 (j : Int)
      refine CALL_piece s3 0 rfl (fun F' ho _ => WriteString_ct ho (Or.inl ⟨rfl, rfl⟩) (BA (nm j)) (by rw [BA_size]; unfold maxBytes; omega)) ?_
      intro F4 v4 w4 hd4 hst4
      have s4 := hst4 _ hd4
      rw [tx_BA] at s4
      have y4 := s4.box 3 rfl
      simp [boxAt] at y4
      unfold tree_Text_1.b3_2
      simp -dsimp [go_sem, y4]
      refine SPL_intro (fun p4 => ?_) (fun p4 => ?_) <;> simp at p4
      · refine CALL_piece s4 0 rfl (fun F' ho _ => WriteString_ct ho (Or.inl ⟨rfl, rfl⟩) ⟨#[40]⟩ (by rw [List.length_append]; show _ + 1 ≤ _; unfold maxBytes; omega)) ?_
        intro F5 v5 w5 hd5 hst5
        have s5 := hst5 _ hd5
        have y5 := s5.box 3 rfl
        have u5 := s5.box 1 rfl
        simp [boxAt] at y5 u5
        have wk : IntKind.i64.wrap ((ks.length : Int) + 1) = (ks.length : Int) + 1 := IntWalk.i64_in _ (by omega)
        unfold tree_Text_1.b3_1
        simp -dsimp [go_sem, y5, u5, wk]
        refine s5.append1 2 rfl Try.underlying24 iInt' rfl (by omega) (news := [Value.int .i64 ((ks.length : Int) + 1)]) rfl (by simp [Value.oneCell']) (by unfold maxLen; omega) (by unfold maxBytes; omega) fun g6 cap w6 s6 => ?_
        have y6 := s6.box 1 rfl
        simp [boxAt] at y6
        have s7 := s6.set 1 rfl 0 (.slice (some ⟨g6, 0, none⟩) (o.length + 1) cap)
        simp -dsimp [go_sem, y6]
        have e7 : natV o.reverse ++ [Value.int .i64 ((ks.length : Int) + 1)] = natV ((ks.length + 1) :: o).reverse := by simp [natV]
        have s8 : St F w (w6.setCell ⟨ob, 0, none⟩ (.slice (some ⟨g6, 0, none⟩) (o.length + 1) cap)) [pgC 5 100 bb [] (spaceT t o ++ nm j ++ [40]), boxC ob 24 [.slice (some ⟨g6, 0, none⟩) ((ks.length + 1) :: o).length cap], rowC 3 1 (some ⟨g6, 0, none⟩) ((ks.length + 1) :: o).length cap (natV ((ks.length + 1) :: o).reverse), boxC q 61 [.int .i64 j, .int .i64 pr, .int .i64 tk, .slice A ks.length c]] := by
          rw [← e7]; exact s7
        refine close_ok s8 (fun i hi => ?_) ?_ fun w' a' cw' hs => hR2 w' a' cw' ?_
        · rcases List.mem_cons.1 hi with rfl | hi
          · omega
          · have := hle i hi; omega
        · simp only [List.length_append, List.length_cons, List.length_nil]
          unfold maxBytes; omega
        · unfold stepN; simp only; rw [if_pos p4]; exact hs
      · refine close_ok s4 (fun i hi => by have := hle i hi; omega) ?_ fun w' a' cw' hs => hR2 w' a' cw' ?_
        · rw [List.length_append]; unfold maxBytes; omega
        · unfold stepN; simp only; rw [if_neg (by omega)]; exact hs
    have y2 := s2.box 1 rfl
    simp [boxAt] at y2
    unfold tree_Text_1.b9_2
    simp -dsimp [go_sem, y2]
    refine SPL_intro (fun p2 => ?_) (fun p2 => ?_) <;> simp at p2
    · have ho : o ≠ [] := by intro e; subst e; simp at p2
      have ht := List.length_pos_iff.2 (hs0 ho)
      unfold tree_Text_1.b9_1
      simp -dsimp [go_sem]
      have hw : IntKind.i64.wrap (((BA t).size : Int) - 1) = (t.length : Int) - 1 := by rw [BA_size]; exact IntWalk.i64_in _ (by omega)
      have hsz : ((BA t).size : Int) = t.length := by rw [BA_size]
      rw [dif_pos (by rw [hw, hsz]; omega), RES_ok]
      have ew : (IntKind.i64.wrap (((BA t).size : Int) - 1)).toNat = t.length - 1 := by rw [hw]; omega
      simp only [ew, BA_get]
      obtain ⟨d, hd⟩ : ∃ d, t[t.length - 1]'(by omega) = d := ⟨_, rfl⟩
      have hlast : t.getLast? = some d := by rw [List.getLast?_eq_getElem?, List.getElem?_eq_getElem (by omega), hd]
      rw [hd]
      simp -dsimp [go_sem]
      unfold tree_Text_1.b10
      refine SPL_intro (fun p3 => ?_) (fun p3 => ?_) <;> simp at p3
      · have hne40 : t.getLast? ≠ some 40 := by
          rw [hlast]; intro e; injection e with e; subst e; simp at p3
        refine CALL_piece s2 0 rfl (fun F' ho _ => WriteString_ct ho (Or.inl ⟨rfl, rfl⟩) ⟨#[32]⟩ (by show t.length + 1 ≤ _; unfold maxBytes; omega)) ?_
        intro F3 v3 w3 hd3 hst3
        have s3 := hst3 _ hd3
        refine b3 _ ?_
        unfold spaceT
        rw [if_pos ⟨ho, hne40⟩]
        exact s3
      · have h40 : t.getLast? = some 40 := by
          rw [hlast]; congr 1
          have p3' : d.toNat = 40 := by omega
          exact UInt8.toNat_inj.1 p3'
        refine b3 _ ?_
        unfold spaceT
        rw [if_neg (by rw [h40]; simp)]
        exact s2
    · have ho : o = [] := by simpa using p2
      unfold tree_Text_1.b10
      simp -dsimp [go_sem]
      refine b3 _ ?_
      unfold spaceT
      rw [if_neg (by simp [ho])]
      exact s2
end Go.Proofs.Ytkacbjhiobnbfaa

/-
  Row and Symbol.
-/
namespace Go.Proofs.Ytkacbjhiobnbfaa
open Go.Px Go.Px.Scan Go.RowKit
set_option maxHeartbeats 1000000
set_option linter.unusedSimpArgs false
set_option linter.unusedVariables false
set_option maxRecDepth 100000
attribute [-go_sem] Builtin.append_
attribute [-go_sem] show_Row.b5 show_Row.b3

theorem IndexFuncI2_ct {w : World} {B : Nat} {v : Value} {l : List Int} (h : (rSlice rInt).at1 w B v l) (hB : B ≤ w.heap.size) {g : FuncId} {first cap : Array Value} {p : Int → Bool}
    (hp : ∀ x ∈ l, inI64 x → ∀ w1, Chg noB w w1 → Ct Try.prog g (first.toList ++ [Value.int .i64 x] ++ cap.toList).toArray w1 fun v w' => v = .bool (p x) ∧ Chg noB w1 w') :
    Ct Try.prog slices_IndexFunc_int_int.id #[v, .func (.func g) first cap] w fun r w' => (∃ i, r = .int .i64 i ∧ (0 ≤ i ↔ l.any p = true) ∧ i ≤ l.length) ∧ Chg noB w w' := by
  refine slices_IndexFunc_int_int.ct fun R hR => ?_
  obtain ⟨A, c, rfl, hl, hm, _⟩ := slice_form h
  unfold slices_IndexFunc_int_int.run slices_IndexFunc_int_int.b1 slices_IndexFunc_int_int.b4
  simp -dsimp [go_sem]
  refine slices_IndexFunc_int_int.l6_intro _ _ _ _ _ _ (fun x w1 => ∃ k : Nat, x = .int .i64 k ∧ k ≤ l.length ∧ (l.take k).any p = false ∧ Chg noB w w1) (fun x _ => l.length - iv x) ⟨0, rfl, by omega, by simp, Chg.refl _ _⟩ ?_
  rintro _ w1 ⟨k, rfl, hk, hall, hcw⟩ C hC
  unfold slices_IndexFunc_int_int.b7
  simp -dsimp [go_sem]
  refine SPL_intro (fun h2 => ?_) (fun h2 => ?_) <;> simp at h2
  · obtain ⟨b1, o1, rfl, hb1, hc1, hr1⟩ := Go.Px.ints_at (Rep.below h (hcw.below hB fun _ _ => id)) h2
    have wk := wrap_succ h2 (Nat.le_trans hl hm)
    simp -dsimp [go_sem, h2, hc1]
    refine CALLY_of (hp l[k] (List.getElem_mem h2) hr1 _ hcw) ?_
    rintro _ w2 ⟨rfl, hc2⟩
    refine SPL_intro (fun h3 => ?_) (fun h3 => ?_)
    · refine hR _ _ ⟨⟨k, rfl, ?_, by omega⟩, hcw.trans hc2⟩
      refine ⟨fun _ => List.any_eq_true.2 ⟨_, List.getElem_mem h2, h3⟩, fun _ => by omega⟩
    · simp -dsimp [go_sem, wk]
      refine hC _ _ ⟨k + 1, by simp, by omega, ?_, hcw.trans hc2⟩ (by simp [iv]; omega)
      rw [List.take_succ_eq_append_getElem h2, List.any_append, hall]
      simp [h3]
  · have hka : k = l.length := by omega
    rw [hka, List.take_length] at hall
    unfold slices_IndexFunc_int_int.b3
    exact hR _ _ ⟨⟨-1, rfl, by rw [hall]; simp, by omega⟩, hcw⟩

theorem ContainsFuncI2_ct {w : World} {B : Nat} {v : Value} {l : List Int} (h : (rSlice rInt).at1 w B v l) (hB : B ≤ w.heap.size) {g : FuncId} {first cap : Array Value} {p : Int → Bool}
    (hp : ∀ x ∈ l, inI64 x → ∀ w1, Chg noB w w1 → Ct Try.prog g (first.toList ++ [Value.int .i64 x] ++ cap.toList).toArray w1 fun v w' => v = .bool (p x) ∧ Chg noB w1 w') :
    Ct Try.prog slices_ContainsFunc_int_int.id #[v, .func (.func g) first cap] w fun r w' => r = .bool (l.any p) ∧ Chg noB w w' := by
  refine slices_ContainsFunc_int_int.ct fun R hR => ?_
  unfold slices_ContainsFunc_int_int.run slices_ContainsFunc_int_int.b1
  refine CALL_of (IndexFuncI2_ct h hB hp) ?_
  rintro _ w1 ⟨⟨i, rfl, hi, _⟩, hc⟩
  simp -dsimp [go_sem]
  refine hR _ _ ⟨?_, hc⟩
  congr 1
  cases ha : l.any p
  · rw [ha] at hi; simpa using hi
  · rw [ha] at hi; simpa using hi

theorem isSymbol_ct {w : World} {F : Nat → Prop} {b : Nat} {A1 A2 A3 A4 : Option Addr} {c1 c2 c3 c4 : Nat} {g : Gr} {l : Txt} (hp : (pgG b [.slice A1 g.terms.length c1, .slice A2 g.nons.length c2, .slice A3 g.levels.length c3, .int .i64 g.start, .slice A4 g.prods.length c4] l).ok w F) (h1 : g.terms.length ≤ 1000) (h2 : g.nons.length ≤ 1000) (s : Int) :
    Ct Try.prog show_page_isSymbol.id #[.pointer (some ⟨b, 0, none⟩), .int .i64 s] w fun v w' => v = .bool (decide (isSymP g s)) ∧ Chg noB w w' := by
  refine show_page_isSymbol.ct fun R hR => ?_
  have y0 := pg_cells hp
  simp [boxAt] at y0
  have wk : IntKind.i64.wrap ((g.terms.length : Int) + (g.nons.length : Int)) = (g.terms.length : Int) + g.nons.length := IntWalk.i64_in _ (by omega)
  unfold show_page_isSymbol.run
  simp -dsimp [go_sem]
  refine SPL_intro (fun p => ?_) (fun p => ?_) <;> simp at p
  · simp -dsimp [go_sem, y0, wk]
    refine hR _ _ ⟨?_, (Chg.refl _ _).drew⟩
    unfold isSymP
    congr 1
    simp [p]
  · refine hR _ _ ⟨?_, (Chg.refl _ _).drew⟩
    unfold isSymP
    congr 1
    exact (decide_eq_false (by rintro ⟨h, _⟩; omega)).symm

theorem BA_extract (l : Txt) (a b : Nat) : (BA l).extract a b = BA ((l.take b).drop a) := by
  apply tx_inj
  rw [tx_BA]
  unfold tx BA
  rw [ByteArray.data_extract]
  simp [List.extract_eq_take_drop, List.drop_take]
theorem HasPrefix_ct (l : Txt) (w : World) : Ct Try.prog internal_stringslite_HasPrefix.id #[.string (BA l), .string ⟨#[32]⟩] w fun v w' => v = .bool (l.head? == some 32) ∧ w = w' := by
  refine internal_stringslite_HasPrefix.ct fun R hR => ?_
  unfold internal_stringslite_HasPrefix.run
  have hsz : (⟨#[32]⟩ : ByteArray).size = 1 := rfl
  simp -dsimp [go_sem, hsz, BA_size]
  cases l with
  | nil =>
    simp -dsimp [go_sem]
    exact hR _ _ ⟨rfl, rfl⟩
  | cons x r =>
    have h1 : (1 : Int) ≤ (r.length : Int) + 1 := by omega
    simp -dsimp [go_sem, hsz, BA_size, h1]
    refine hR _ _ ⟨?_, rfl⟩
    rw [ByteArray.toList_eq, BA_extract]
    simp [BA]
theorem TrimPrefix_ct (l : Txt) (w : World) (hl : l = [] ∨ l.head? = some 32) : Ct Try.prog strings_TrimPrefix.id #[.string (BA l), .string ⟨#[32]⟩] w fun v w' => v = .string (BA (l.drop 1)) ∧ w = w' := by
  refine strings_TrimPrefix.ct fun R hR => ?_
  unfold strings_TrimPrefix.run
  simp -dsimp [go_sem]
  have hsz : (⟨#[32]⟩ : ByteArray).size = 1 := rfl
  refine CALL_of (S := fun v w' => v = .string (BA (l.drop 1)) ∧ w = w') (internal_stringslite_TrimPrefix.ct fun R hR => ?_) ?_
  · unfold internal_stringslite_TrimPrefix.run
    simp -dsimp [go_sem]
    refine CALL_of (HasPrefix_ct l w) ?_
    rintro _ _ ⟨rfl, rfl⟩
    rcases hl with rfl | hl
    · simp -dsimp [go_sem]
      exact hR _ _ ⟨rfl, rfl⟩
    · rw [hl]
      have hpos : (1 : Int) ≤ (l.length : Int) := by cases l with | nil => simp at hl | cons x r => simp; omega
      simp -dsimp [go_sem, hsz, BA_size, hpos]
      refine hR _ _ ⟨?_, rfl⟩
      rw [BA_extract, List.take_length]
  · rintro _ _ ⟨rfl, rfl⟩
    exact hR _ _ ⟨rfl, rfl⟩

theorem namesT_head (g : Gr) (l : List Int) : namesT g l = [] ∨ (namesT g l).head? = some 32 := by
  cases l with
  | nil => exact Or.inl rfl
  | cons x r => exact Or.inr (by rw [namesT_cons]; rfl)

section
variable {w : World} {B : Nat} {vg : Value} {g : Gr}
theorem Row_ct (h : rGram.atN w B vg g) (hB : B ≤ w.heap.size) {u : Value} {l : List Int} {B' : Nat} (hu : (rSlice rInt).at1 w B' u l) (hB' : B' ≤ w.heap.size) (hl : l.length ≤ 1000000000000) :
    Ct Try.prog show_Row.id #[vg, u] w fun v w' => v = .tuple #[.string (BA (if rowOk g l then rowT g l else [])), .int .i64 (if rowOk g l then 0 else 1)] ∧ Chg noB w w' := by
  refine show_Row.ct fun R hR => ?_
  obtain ⟨A1, c1, A2, c2, A3, c3, A4, c4, rfl, h1, h2, h3, hst, h4, k1, k2, k3, k4⟩ := (rGram_open h).ex
  have s0 := (St.refl noB w).alloc #[.slice A1 g.terms.length c1, .slice A2 g.nons.length c2, .slice A3 g.levels.length c3, .int .i64 g.start, .slice A4 g.prods.length c4] 27
  unfold show_Row.run
  simp -dsimp [go_sem]
  have hg1 : rGram.atN _ B _ g := rGram_below h (s0.chg.below hB fun _ _ => id)
  have hB1 := s0.chg.size
  generalize w.alloc (.cells #[.slice A1 g.terms.length c1, .slice A2 g.nons.length c2, .slice A3 g.levels.length c3, .int .i64 g.start, .slice A4 g.prods.length c4] 27) = w1 at s0 hg1 hB1 ⊢
  refine CALL_of (open_ct hg1 (by omega)) ?_
  rintro _ w2 ⟨b, vs, rfl, hvs, hs2⟩
  have hvs' : vs = [.slice A1 g.terms.length c1, .slice A2 g.nons.length c2, .slice A3 g.levels.length c3, .int .i64 g.start, .slice A4 g.prods.length c4] := by
    injection hvs with hvs
    have := congrArg Array.toList hvs; simpa using this.symm
  subst hvs'
  have s2 := (s0.seq hs2).alloc #[.pointer (some ⟨b, 0, none⟩)] 88
  simp -dsimp [go_sem]
  generalize w2.heap.size = pb at s2 ⊢
  generalize w2.alloc (.cells #[.pointer (some ⟨b, 0, none⟩)] 88) = w3 at s2 ⊢
  have hno : ∀ w', Chg noB w w' → rowOk g l = false → show_Row.b5 R u (.pointer (some ⟨pb, 0, none⟩)) (.bool true) w' := by
    intro w' hc hf
    unfold show_Row.b5
    simp -dsimp [go_sem]
    refine hR _ _ ⟨?_, hc⟩
    rw [hf]; rfl
  cases he : eitherB g with
  | false =>
    simp -dsimp [go_sem]
    exact hno _ s2.chg (by unfold rowOk; rw [he]; rfl)
  | true =>
    have hbd := either_bound (eitherB_iff.1 he)
    have hu3 := Rep.below hu (s2.chg.below hB' fun _ _ => id)
    simp -dsimp [go_sem]
    refine CALL_of (ContainsFuncI2_ct (p := fun s => !decide (isSymP g s)) hu3 (by have := s2.chg.size; omega) fun x hx hi w4 hc4 => ?_) ?_
    · refine show_Row_1.ct fun R hR => ?_
      have s4 := s2.old hc4
      have y4 := s4.box 2 rfl
      simp [boxAt] at y4
      unfold show_Row_1.run
      simp -dsimp [go_sem, y4]
      obtain ⟨F, ho, _⟩ := s4.get (k := 1) rfl
      refine CALL_of (isSymbol_ct ho (by have := hbd.t1; omega) (by have := hbd.n1; omega) x) ?_
      rintro _ w5 ⟨rfl, hc5⟩
      simp -dsimp [go_sem]
      refine hR _ _ ⟨?_, hc5⟩
      simp
    · rintro _ w4 ⟨rfl, hc4⟩
      have s4 := s2.old hc4
      cases ha : l.any fun s => !decide (isSymP g s) with
      | true =>
        refine hno _ s4.chg ?_
        unfold rowOk
        rw [he, Bool.true_and]
        cases hall : l.all fun s => decide (isSymP g s) with
        | false => rfl
        | true =>
          obtain ⟨x, hx, hx2⟩ := List.any_eq_true.1 ha
          have := List.all_eq_true.1 hall x hx
          rw [this] at hx2; cases hx2
      | false =>
        have hall : ∀ s ∈ l, isSymP g s := fun s hs => by
          have := List.any_eq_false.1 ha s hs
          simpa using this
        have hok : rowOk g l = true := by
          unfold rowOk
          rw [he, Bool.true_and, List.all_eq_true]
          exact fun s hs => by simpa using hall s hs
        have y4 := s4.box 2 rfl
        simp [boxAt] at y4
        unfold show_Row.b5
        simp -dsimp [go_sem]
        unfold show_Row.b3
        simp -dsimp [go_sem, y4]
        have hlen := namesT_len hbd l
        refine CALL_piece s4 1 rfl (fun F' ho hF => names_ct (w := w4) (B := B) (g := g) ⟨ho, rGram_below h (s4.chg.below hB fun _ _ => id), fun i hi => ?_, by have := s4.chg.size; omega, hbd⟩ (ws := l) (fun w' hc => ⟨B', ?_⟩) hall (by simp; unfold maxBytes; omega)) ?_
        · by_cases e : i < w.heap.size
          · exact absurd ((hF i hi).2 e) id
          · omega
        · have hch : Chg F' w w' := (s4.chg.mono fun _ _ (e : noB _) => e.elim).trans' hc fun _ _ e => e
          exact Rep.below hu (hch.below hB' fun i hi e => (hF i e).2 (by omega))
        intro F5 v5 w5 hd5 hs5
        have s5 := hs5 _ hd5
        have y5 := s5.box 2 rfl
        simp [boxAt] at y5
        simp -dsimp [go_sem, y5]
        refine CALL_piece s5 1 rfl (fun F' ho hF => String_ct ho) ?_
        rintro F6 v6 w6 ⟨rfl, hd6⟩ hs6
        have s6 := hs6 _ hd6
        simp only [List.nil_append]
        refine CALL_of (TrimPrefix_ct _ w6 (namesT_head g l)) ?_
        rintro _ _ ⟨rfl, rfl⟩
        simp -dsimp [go_sem]
        refine hR _ _ ⟨?_, s6.chg⟩
        rw [hok]; simp [rowT]
end
end Go.Proofs.Ytkacbjhiobnbfaa

/-
  A symbol's text.
-/
namespace Go.Proofs.Ytkacbjhiobnbfaa
open Go.Px Go.Px.Scan Go.RowKit
set_option maxHeartbeats 1000000
set_option linter.unusedSimpArgs false
set_option linter.unusedVariables false
set_option maxRecDepth 100000
attribute [-go_sem] Builtin.append_
section
variable {w : World} {B : Nat} {vg : Value} {g : Gr}
theorem Symbol_ct (h : rGram.atN w B vg g) (hB : B ≤ w.heap.size) {s : Int} (hs : inI64 s) :
    Ct Try.prog show_Symbol.id #[vg, .int .i64 s] w fun v w' => v = .tuple #[.string (BA (if rowOk g [s] then symT g s else [])), .int .i64 (if rowOk g [s] then 0 else 1)] ∧ Chg noB w w' := by
  refine show_Symbol.ct fun R hR => ?_
  obtain ⟨A1, c1, A2, c2, A3, c3, A4, c4, rfl, h1, h2, h3, hst, h4, k1, k2, k3, k4⟩ := (rGram_open h).ex
  have s0 := (St.refl noB w).alloc #[.slice A1 g.terms.length c1, .slice A2 g.nons.length c2, .slice A3 g.levels.length c3, .int .i64 g.start, .slice A4 g.prods.length c4] 27
  unfold show_Symbol.run
  simp -dsimp [go_sem]
  rw [show w.heap.size + 1 = (w.alloc (.cells #[.slice A1 g.terms.length c1, .slice A2 g.nons.length c2, .slice A3 g.levels.length c3, .int .i64 g.start, .slice A4 g.prods.length c4] 27)).heap.size by simp]
  generalize w.alloc (.cells #[.slice A1 g.terms.length c1, .slice A2 g.nons.length c2, .slice A3 g.levels.length c3, .int .i64 g.start, .slice A4 g.prods.length c4] 27) = w1 at s0 ⊢
  have hc1 : Chg noB w1 (w1.alloc (.cells #[.int .i64 s] 3)) := (Chg.refl _ _).alloc _
  have hc2 := s0.chg.trans hc1
  have hu : (rSlice rInt).at1 (w1.alloc (.cells #[.int .i64 s] 3)) (w1.heap.size + 1) (.slice (some ⟨w1.heap.size, 0, none⟩) 1 1) [s] := lit_int (X := noB) (fun _ e => e.elim) hs (Chg.refl _ _)
  refine CALL_of (Row_ct (rGram_below h (hc2.below hB fun _ _ => id)) (by have := hc2.size; omega) hu (by simp) (by simp)) ?_
  rintro _ w3 ⟨rfl, hc3⟩
  simp -dsimp [go_sem]
  refine hR _ _ ⟨?_, hc2.trans hc3⟩
  congr 2
  simp [rowT, namesT, wordsT]

end
end Go.Proofs.Ytkacbjhiobnbfaa

/-
  tree: Text.
-/
namespace Go.Proofs.Ytkacbjhiobnbfaa
open Go.Px Go.Px.Scan Go.RowKit
set_option maxHeartbeats 1000000
set_option linter.unusedSimpArgs false
set_option linter.unusedVariables false
set_option maxRecDepth 100000
attribute [-go_sem] Builtin.append_ tree_Text.b3 tree_Text.b3_1 tree_Text.b1_1 tree_Text.b7_1

theorem iStr' : (Try.prog.info? 9).map (fun i => (i.zero, i.size, i.bytes)) = some (some (.string ⟨#[]⟩), 1, 16) := by kernel_rfl
theorem mkStrs (w : World) (n : Nat) (h : n ≤ 1000000) : (Instr.makeSlice 23 (.int .i64 n) (.int .i64 n)).run Try.prog w = .ok (.slice (some ⟨w.heap.size, 0, none⟩) n n) (w.alloc (.cells (Array.replicate n (Value.string ⟨#[]⟩)) 9)) := by
  obtain ⟨i0, hi, hz0, hz1, hz2⟩ := info_parts iStr'
  have := run_make (P := Try.prog) w 23 9 i0 _ Try.underlying23 hi hz0 .i64 .i64 n n (by omega) (by omega) (by rw [hz2]; omega) (by omega)
  rw [this]
  have e : madeCells (Value.string ⟨#[]⟩).cells ((n : Int).toNat * i0.size) = Array.replicate n (Value.string ⟨#[]⟩) := by
    rw [hz1, Nat.mul_one, Int.toNat_natCast]
    have := toList_madeCells_one (Value.string ⟨#[]⟩) n
    apply Array.toList_inj.1
    rw [Array.toList_replicate]
    exact this
  rw [e]
  simp
theorem pg_new {w : World} {bb : Nat} {F : Nat → Prop} (h : (boxC bb 100 [.pointer none, .slice none 0 0]).ok w F) : (pgC 5 100 bb [] []).ok w F := by
  obtain ⟨T, hT, hk⟩ := ((St.one h).nilTxt 5).all
  exact ⟨(.pointer none, none, 0), Or.inl rfl, T, fun i hi => ⟨(hT i hi).1 (hT i hi).2, (hT i hi).2⟩, hk⟩
def namesR (g : Gr) (T i : Nat) : List Value := (List.range T).map fun j : Nat => .string (if j < i then BA (symT g j) else ⟨#[]⟩)
theorem namesR_len (g : Gr) (T i : Nat) : (namesR g T i).length = T := by simp [namesR]
theorem namesR_zero (g : Gr) (T : Nat) : namesR g T 0 = List.replicate T (Value.string ⟨#[]⟩) := by
  apply List.ext_getElem
  · simp [namesR]
  · intro i h1 h2; simp [namesR]
theorem namesR_set (g : Gr) (T i : Nat) : (namesR g T i).set i (.string (BA (symT g i))) = namesR g T (i + 1) := by
  apply List.ext_getElem
  · simp [namesR]
  · intro j h1 h2
    simp only [namesR, List.getElem_set, List.getElem_map, List.getElem_range]
    by_cases e : i = j
    · subst e; simp
    · rw [if_neg e]
      by_cases e2 : j < i
      · rw [if_pos e2, if_pos (by omega)]
      · rw [if_neg e2, if_neg (by omega)]
theorem namesR_get (g : Gr) {T i j : Nat} (h : j < i) (hj : j < T) : (namesR g T i)[j]'(by rw [namesR_len]; exact hj) = .string (BA (symT g j)) := by
  simp [namesR, h]

noncomputable def textB (g : Gr) (l : List Nd) (root : Int) : Option Txt := if closedB g then (lookP l false (textV (symT g) (g.terms.length + g.nons.length) l) ([], []) root).map (·.1) else none
theorem TreeText_ct {w : World} {B : Nat} {vg nv : Value} {l : List Nd} {g : Gr} {root : Int} (hg : rGram.atN w B vg g) (h : (rSlice rNd).at1 w B nv l) (hB : B ≤ w.heap.size) (hN : l.length ≤ 3000000000000) (hkd : ∀ x ∈ l, x.2.2.2.length * 8 ≤ maxBytes) (hr : inI64 root) :
    Ct Try.prog tree_Text.id #[vg, nv, .int .i64 root] w fun v w' => v = (match textB g l root with | some t => .tuple #[.string (BA t), .int .i64 0] | none => .tuple #[.string ⟨#[]⟩, .int .i64 1]) ∧ Chg noB w w' := by
  refine tree_Text.ct fun R hR => ?_
  obtain ⟨A1, c1, A2, c2, A3, c3, A4, c4, rfl, h1, h2, h3, hst, h4, k1, k2, k3, k4⟩ := (rGram_open hg).ex
  have s0 := (St.refl noB w).alloc #[.slice A1 g.terms.length c1, .slice A2 g.nons.length c2, .slice A3 g.levels.length c3, .int .i64 g.start, .slice A4 g.prods.length c4] 27
  unfold tree_Text.run
  simp -dsimp [go_sem]
  generalize w.heap.size = q at s0 ⊢
  generalize w.alloc (.cells #[.slice A1 g.terms.length c1, .slice A2 g.nons.length c2, .slice A3 g.levels.length c3, .int .i64 g.start, .slice A4 g.prods.length c4] 27) = w1 at s0 ⊢
  refine CALL_of (Closed_ct (rGram_below hg (s0.chg.below hB fun _ _ => id)) (by have := s0.chg.size; omega)) ?_
  rintro _ w2 ⟨rfl, hc2⟩
  have s2 := s0.old hc2
  unfold textB at hR
  cases hcl : closedB g with
  | false =>
    simp -dsimp [go_sem]
    rw [hcl] at hR
    exact hR _ _ ⟨rfl, s2.chg⟩
  | true =>
    rw [hcl, if_pos rfl] at hR
    have hbd : EBound g := either_bound (Or.inr (closedB_iff.1 hcl))
    have y2 := s2.box 0 rfl
    simp [boxAt] at y2
    unfold tree_Text.b1_1
    have hT : g.terms.length + g.nons.length ≤ 130 := by have := hbd.t1; have := hbd.n1; omega
    have hlt : ∀ i : Nat, i < g.terms.length + g.nons.length → rowOk g [(i : Int)] = true := by
      intro i hi
      unfold rowOk
      rw [eitherB_iff.2 (Or.inr (closedB_iff.1 hcl))]
      simp [isSymP]; omega
    have hmk := mkStrs w2 (g.terms.length + g.nons.length) (by omega)
    rw [show ((g.terms.length + g.nons.length : Nat) : Int) = (g.terms.length : Int) + g.nons.length by omega] at hmk
    have wT : IntKind.i64.wrap ((g.terms.length : Int) + g.nons.length) = (g.terms.length : Int) + g.nons.length := IntWalk.i64_in _ (by omega)
    have s3 := s2.lit 9 1 (g.terms.length + g.nons.length) (Array.replicate (g.terms.length + g.nons.length) (Value.string ⟨#[]⟩)) (by unfold maxLen; omega) (by simp)
    have s4 := s3.alloc #[.slice (some ⟨w2.heap.size, 0, none⟩) (g.terms.length + g.nons.length) (g.terms.length + g.nons.length)] 23
    have hs3 : (w2.alloc (.cells (Array.replicate (g.terms.length + g.nons.length) (Value.string ⟨#[]⟩)) 9)).heap.size = w2.heap.size + 1 := by simp
    rw [hs3] at s4
    have k4 : ((w2.alloc (.cells (Array.replicate (g.terms.length + g.nons.length) (Value.string ⟨#[]⟩)) 9)).alloc (.cells #[.slice (some ⟨w2.heap.size, 0, none⟩) (g.terms.length + g.nons.length) (g.terms.length + g.nons.length)] 23)).cell? ⟨w2.heap.size + 1, 0, none⟩ = some (.slice (some ⟨w2.heap.size, 0, none⟩) (g.terms.length + g.nons.length) (g.terms.length + g.nons.length)) := (s4.box 2 rfl).1.1
    obtain ⟨T, hTe⟩ : ∃ T, g.terms.length + g.nons.length = T := ⟨_, rfl⟩
    simp -dsimp [go_sem, y2, wT, hmk, k4]
    clear k4 hs3
    have hTi : (g.terms.length : Int) + g.nons.length = T := by omega
    rw [hTe] at s4 hT hlt hR
    rw [hTi, hTe]
    generalize (w2.alloc (.cells (Array.replicate T (Value.string ⟨#[]⟩)) 9)).alloc (.cells #[.slice (some ⟨w2.heap.size, 0, none⟩) T T] 23) = w4 at s4 ⊢
    generalize w2.heap.size = nr at s4 ⊢
    rw [Array.toList_replicate, ← namesR_zero g] at s4
    refine tree_Text.l6_intro _ _ _ _ _ _ _ _ (fun y w' => ∃ i : Nat, y = .int .i64 i ∧ i ≤ T ∧ St noB w w' [boxC q 27 [.slice A1 g.terms.length c1, .slice A2 g.nons.length c2, .slice A3 g.levels.length c3, .int .i64 g.start, .slice A4 g.prods.length c4], rowC 9 1 (some ⟨nr, 0, none⟩) T T (namesR g T i), boxC (nr + 1) 23 [.slice (some ⟨nr, 0, none⟩) T T]]) (fun y _ => T - iv y) ⟨0, rfl, by omega, s4⟩ ?_
    rintro _ w5 ⟨i, rfl, hi, s5⟩ C hC
    simp -dsimp [go_sem]
    refine SPL_intro (fun p1 => ?_) (fun p1 => ?_) <;> simp at p1
    · have s6 := s5.old (Chg.refl noB _).drew
      have y6 := s5.box 0 rfl
      have u6 := s5.box 2 rfl
      simp [boxAt] at y6 u6
      simp -dsimp [go_sem, y6, u6]
      refine CALL_of (Symbol_ct (rGram_below hg (s6.chg.below hB fun _ _ => id)) (by have := s6.chg.size; omega) (by unfold inI64; omega)) ?_
      rintro _ w7 ⟨rfl, hc7⟩
      have s7 := s6.old hc7
      have u7 := s7.box 2 rfl
      simp [boxAt] at u7
      rw [hlt i p1, if_pos rfl, if_pos rfl]
      have wi : IntKind.i64.wrap ((i : Int) + 1) = (i : Int) + 1 := IntWalk.i64_in _ (by omega)
      obtain ⟨gn, en, cn, fn⟩ := s7.rowAt 1 rfl (j := i) (by rw [namesR_len]; exact p1)
      injection en with en; injection en with en; subst en
      have s8 := s7.setRow 1 rfl i (.string (BA (symT g i)))
      rw [namesR_set] at s8
      unfold tree_Text.b7_1
      simp -dsimp [go_sem, u7, wi, p1, cn, fn]
      exact hC _ _ ⟨i + 1, by simp, by omega, s8⟩ (by simp [iv]; omega)
    · have hiT : i = T := by omega
      subst hiT
      have u5 := s5.box 2 rfl
      have hnr : ∀ j : Nat, j < i → w5.cell? ⟨nr, j, none⟩ = some (.string (BA (symT g j))) := by
        intro j hj
        obtain ⟨g', e, c', _⟩ := s5.rowAt 1 rfl (j := j) (by rw [namesR_len]; exact hj)
        injection e with e; injection e with e; subst e
        rw [namesR_get g hj hj] at c'
        exact c'
      have hnrs : nr < w5.heap.size := by
        have hT0 : 0 < i := by have := hbd.t0; omega
        obtain ⟨F, ho, _⟩ := s5.get (k := 1) rfl
        obtain ⟨g', e, _, _, _, hl⟩ := row_at ho (j := 0) (by rw [namesR_len]; omega)
        injection e with e; injection e with e; subst e
        exact hl
      have hc5 := s5.chg
      have q1 := (St.refl noB w5).alloc #[.pointer none, .slice none 0 0] 100
      have q2 := (q1.alloc #[.slice none 0 0] 24).nilRow 3 1
      have hs : (w5.alloc (.cells #[.pointer none, .slice none 0 0] 100)).heap.size = w5.heap.size + 1 := by simp
      rw [hs] at q2
      unfold tree_Text.b3
      simp -dsimp [go_sem]
      generalize hw6 : (w5.alloc (.cells #[.pointer none, .slice none 0 0] 100)).alloc (.cells #[.slice none 0 0] 24) = w6 at q2 ⊢
      clear hw6 hs q1
      obtain ⟨bb, hbb⟩ : ∃ bb, w5.heap.size = bb := ⟨_, rfl⟩
      rw [hbb] at q2 ⊢
      have q3 := q2.turn (k := 0) rfl fun F ho => pg_new ho
      have q4 : St noB w5 w6 [textC bb (bb + 1) ([], [])] := St.pack (f := fun x : Option Addr × Nat => [pgC 5 100 bb [] [], boxC (bb + 1) 24 [.slice x.1 ([] : List Nat).length x.2], rowC 3 1 x.1 ([] : List Nat).length x.2 (natV ([] : List Nat).reverse)]) (none, 0) q3
      refine CALL_of (below_ct (ca := #[.pointer (some ⟨nr + 1, 0, none⟩), .pointer (some ⟨bb, 0, none⟩), .pointer (some ⟨bb + 1, 0, none⟩)]) (Rep.below h (hc5.below hB fun _ _ => id)) (by have := hc5.size; omega) hN hkd q4 (left_ok w5) (Text1_ok hN (by have := hc5.size; omega) hkd u5.1.1 u5.2.2 hnr hnrs (by omega) (symT_len hbd) (symT_ne g)) hr) ?_
      intro v w7 hp
      unfold tree_Text.b3_1
      cases hl : lookP l false (textV (symT g) i l) ([], []) root with
      | none =>
        rw [hl] at hp hR
        obtain ⟨rfl, hc7⟩ := hp
        simp -dsimp [go_sem]
        exact hR _ _ ⟨rfl, hc5.trans hc7⟩
      | some s =>
        rw [hl] at hp hR
        obtain ⟨rfl, s7⟩ := hp
        obtain ⟨⟨a, cw⟩, s8⟩ := s7.unpack
        simp -dsimp [go_sem]
        refine CALL_piece s8 0 rfl (fun F' ho _ => String_ct ho) ?_
        rintro F9 _ w9 ⟨rfl, hd9⟩ hst9
        have s9 := hst9 _ hd9
        exact hR _ _ ⟨rfl, hc5.trans s9.chg⟩
end Go.Proofs.Ytkacbjhiobnbfaa

/-
  The chapter's example of trees.
-/
namespace Go.Px.Scan
open Go.Px Go.RowKit
def g20 : Gr := ⟨[(⟨#[]⟩, 0), (⟨#[43]⟩, 0), (⟨#[110]⟩, 0)], [⟨#[]⟩, ⟨#[101]⟩], [], 4, [(3, [4], 0), (4, [4, 1, 2], 0), (4, [2], 0)]⟩
def l20 : List Nd := [(2, -1, 0, []), (4, 2, 0, [0]), (1, -1, 1, []), (2, -1, 2, []), (4, 1, 0, [1, 2, 3])]
theorem g20_closed : ClosedP g20 := by
  refine ⟨rfl, ⟨rfl, by decide, by decide, by decide, by decide, ?_, ?_, by decide, by decide, ?_⟩, ⟨by decide, by decide, ?_, by decide, by decide, by decide⟩, rfl⟩
  · intro t ht
    simp [g20] at ht
    rcases ht with rfl | rfl <;> exact ⟨⟨by decide, by decide, fun i hi => by
      have hi' : i < 1 := hi
      have : i = 0 := by omega
      subst this
      decide⟩, by decide, by decide⟩
  · intro i hi
    simp [g20] at hi
  · intro s hs
    simp [g20] at hs
    subst hs
    refine ⟨by decide, by decide, by decide, fun i hi => ?_⟩
    have hi' : i < 1 := hi
    have : i = 0 := by omega
    subst this
    decide
  · intro p hp
    simp [g20] at hp
    rcases hp with rfl | rfl
    · exact ⟨by decide, by decide, by decide, by decide, fun s hs => by simp at hs; rcases hs with rfl | rfl | rfl <;> decide⟩
    · exact ⟨by decide, by decide, by decide, by decide, fun s hs => by simp at hs; subst hs; decide⟩
theorem g20_b : closedB g20 = true := closedB_iff.2 g20_closed
theorem l20_fr : lookP l20 false (frV l20) [] 4 = some [2, 1, 2] := by decide +kernel
theorem l20_rm : lookP l20 true (rmV l20) [] 4 = some [1, 2] := by decide +kernel
end Go.Px.Scan
namespace Go.Px
/-- Blocks, one after the other. -/
def alls (w : World) : List (Array Value × TypeId) → World
  | [] => w
  | x :: r => alls (w.alloc (.cells x.1 x.2)) r
theorem alls_chg (w : World) : ∀ (l : List (Array Value × TypeId)) (w1 : World), Chg noB w w1 → Chg noB w (alls w1 l)
  | [], w1, h => h
  | x :: r, w1, h => alls_chg w r _ (h.alloc _)
theorem alls_at : ∀ (l : List (Array Value × TypeId)) (w : World) (i : Nat) (c : Array Value) (t : TypeId), l[i]? = some (c, t) → (alls w l).heap[w.heap.size + i]? = some (.cells c t (0, 0))
  | [], w, i, c, t, h => by simp at h
  | x :: r, w, 0, c, t, h => by
    simp at h; subst h
    have := alls_chg (w.alloc (.cells c t)) r _ (Chg.refl noB _)
    exact (this.block w.heap.size (by simp) id).trans (World.alloc_heap_new w _)
  | x :: r, w, i + 1, c, t, h => by
    have h1 := alls_at r (w.alloc (.cells x.1 x.2)) i c t (by simpa using h)
    have h2 : (w.alloc (.cells x.1 x.2)).heap.size = w.heap.size + 1 := by simp
    rw [h2, show w.heap.size + 1 + i = w.heap.size + (i + 1) by omega] at h1
    exact h1
end Go.Px
namespace Go.Proofs.Ytkacbjhiobnbfaa
open Go.Px Go.Px.Scan Go.RowKit
set_option maxHeartbeats 1000000
set_option linter.unusedSimpArgs false
set_option linter.unusedVariables false
set_option maxRecDepth 100000
theorem l20_d1 : deriveB g20 l20 4 [2, 1, 2] = true := by
  unfold deriveB; rw [g20_b]; decide +kernel
theorem l20_d2 : deriveB g20 l20 4 [2, 1] = false := by
  unfold deriveB; rw [g20_b]; decide +kernel
def t20 : Txt := [101, 40, 101, 40, 39, 110, 39, 41, 32, 39, 43, 39, 32, 39, 110, 39, 41]
theorem l20_tx : textB g20 l20 4 = some t20 := by
  unfold textB
  rw [if_pos g20_b]; decide +kernel

theorem bTerm0 (w : World) : (Instr.build 106 #[]).run Try.prog w = .ok (.agg #[.string ⟨#[]⟩, .int .i64 0]) w := by simp [go_sem]
theorem bTerms3 (a b c : ByteArray) (x y z : Int) (w : World) : (Instr.buildSlice 22 3 #[(0, .agg #[.string a, .int .i64 x]), (1, .agg #[.string b, .int .i64 y]), (2, .agg #[.string c, .int .i64 z])]).run Try.prog w = .ok (.slice (some ⟨w.heap.size, 0, none⟩) 3 3) (w.alloc (.cells #[.string a, .int .i64 x, .string b, .int .i64 y, .string c, .int .i64 z] 106)) := by
  simp [go_sem, Value.cells]
theorem bNons2 (a b : ByteArray) (w : World) : (Instr.buildSlice 23 2 #[(0, .string a), (1, .string b)]).run Try.prog w = .ok (.slice (some ⟨w.heap.size, 0, none⟩) 2 2) (w.alloc (.cells #[.string a, .string b] 9)) := by
  simp [go_sem, Value.cells]
theorem bInts3 (a b c : Int) (w : World) : (Instr.buildSlice 24 3 #[(0, .int .i64 a), (1, .int .i64 b), (2, .int .i64 c)]).run Try.prog w = .ok (.slice (some ⟨w.heap.size, 0, none⟩) 3 3) (w.alloc (.cells #[.int .i64 a, .int .i64 b, .int .i64 c] 3)) := by
  simp [go_sem, Value.cells]
theorem bInts1 (a : Int) (w : World) : (Instr.buildSlice 24 1 #[(0, .int .i64 a)]).run Try.prog w = .ok (.slice (some ⟨w.heap.size, 0, none⟩) 1 1) (w.alloc (.cells #[.int .i64 a] 3)) := by
  simp [go_sem, Value.cells]
theorem bProd1 (x : Int) (A : Option Addr) (n c : Nat) (w : World) : (Instr.build 47 #[(0, .int .i64 x), (1, .slice A n c)]).run Try.prog w = .ok (.agg #[.int .i64 x, .slice A n c, .int .i64 0]) w := by simp [go_sem]
theorem bProds3 (x y z : Int) (A1 A2 A3 : Option Addr) (n1 c1 n2 c2 n3 c3 : Nat) (w : World) : (Instr.buildSlice 25 3 #[(0, .agg #[.int .i64 x, .slice A1 n1 c1, .int .i64 0]), (1, .agg #[.int .i64 y, .slice A2 n2 c2, .int .i64 0]), (2, .agg #[.int .i64 z, .slice A3 n3 c3, .int .i64 0])]).run Try.prog w = .ok (.slice (some ⟨w.heap.size, 0, none⟩) 3 3) (w.alloc (.cells #[.int .i64 x, .slice A1 n1 c1, .int .i64 0, .int .i64 y, .slice A2 n2 c2, .int .i64 0, .int .i64 z, .slice A3 n3 c3, .int .i64 0] 47)) := by
  simp [go_sem, Value.cells]
theorem bGram4 (A1 A2 A4 : Option Addr) (n1 c1 n2 c2 n4 c4 : Nat) (s : Int) (w : World) : (Instr.build 27 #[(0, .slice A1 n1 c1), (1, .slice A2 n2 c2), (3, .int .i64 s), (4, .slice A4 n4 c4)]).run Try.prog w = .ok (.agg #[.slice A1 n1 c1, .slice A2 n2 c2, .slice none 0 0, .int .i64 s, .slice A4 n4 c4]) w := by simp [go_sem]
theorem bNd2 (x y : Int) (w : World) : (Instr.build 61 #[(0, .int .i64 x), (1, .int .i64 y)]).run Try.prog w = .ok (.agg #[.int .i64 x, .int .i64 y, .int .i64 0, .slice none 0 0]) w := by simp [go_sem]
theorem bNd3 (x y z : Int) (w : World) : (Instr.build 61 #[(0, .int .i64 x), (1, .int .i64 y), (2, .int .i64 z)]).run Try.prog w = .ok (.agg #[.int .i64 x, .int .i64 y, .int .i64 z, .slice none 0 0]) w := by simp [go_sem]
theorem bNdK (x y : Int) (A : Option Addr) (n c : Nat) (w : World) : (Instr.build 61 #[(0, .int .i64 x), (1, .int .i64 y), (3, .slice A n c)]).run Try.prog w = .ok (.agg #[.int .i64 x, .int .i64 y, .int .i64 0, .slice A n c]) w := by simp [go_sem]
abbrev nd4 (x y z : Int) (A : Option Addr) (n c : Nat) : Value := .agg #[.int .i64 x, .int .i64 y, .int .i64 z, .slice A n c]
theorem bNds5 (x1 y1 z1 x2 y2 z2 x3 y3 z3 x4 y4 z4 x5 y5 z5 : Int) (A1 A2 A3 A4 A5 : Option Addr) (n1 c1 n2 c2 n3 c3 n4 c4 n5 c5 : Nat) (w : World) : (Instr.buildSlice 49 5 #[(0, nd4 x1 y1 z1 A1 n1 c1), (1, nd4 x2 y2 z2 A2 n2 c2), (2, nd4 x3 y3 z3 A3 n3 c3), (3, nd4 x4 y4 z4 A4 n4 c4), (4, nd4 x5 y5 z5 A5 n5 c5)]).run Try.prog w = .ok (.slice (some ⟨w.heap.size, 0, none⟩) 5 5) (w.alloc (.cells #[.int .i64 x1, .int .i64 y1, .int .i64 z1, .slice A1 n1 c1, .int .i64 x2, .int .i64 y2, .int .i64 z2, .slice A2 n2 c2, .int .i64 x3, .int .i64 y3, .int .i64 z3, .slice A3 n3 c3, .int .i64 x4, .int .i64 y4, .int .i64 z4, .slice A4 n4 c4, .int .i64 x5, .int .i64 y5, .int .i64 z5, .slice A5 n5 c5] 61)) := by
  simp [go_sem, Value.cells]
attribute [go_sem ↓] bNds5 bNdK bNd3 bNd2 bGram4 bProds3 bProd1 bInts1 bInts3 bNons2 bTerms3 bTerm0

def ints1 (b : Nat) (l : List Int) : Value := if l = [4] then .slice (some ⟨b + 3, 0, none⟩) 1 1 else if l = [4, 1, 2] then .slice (some ⟨b + 4, 0, none⟩) 3 3 else .slice (some ⟨b + 5, 0, none⟩) 1 1
def ints2 (b : Nat) (l : List Int) : Value := if l = [] then .slice none 0 0 else if l = [0] then .slice (some ⟨b + 8, 0, none⟩) 1 1 else .slice (some ⟨b + 9, 0, none⟩) 3 3
theorem chapter_ct (w : World) : Ct Try.prog law20_chapter.id #[] w fun v w' => ∃ vg nv, v = .tuple #[vg, nv] ∧ rGram.atN w' w'.heap.size vg g20 ∧ (rSlice rNd).at1 w' w'.heap.size nv l20 ∧ Chg noB w w' := by
  refine law20_chapter.ct fun R hR => ?_
  unfold law20_chapter.run
  simp -dsimp [go_sem]
  obtain ⟨b, hb⟩ : ∃ b, w.heap.size = b := ⟨_, rfl⟩
  let G : Array Value := #[.slice (some ⟨b + 1, 0, none⟩) 3 3, .slice (some ⟨b + 2, 0, none⟩) 2 2, .slice none 0 0, .int .i64 4, .slice (some ⟨b + 6, 0, none⟩) 3 3]
  let L : List (Array Value × TypeId) := [(G, 27), (#[.string ⟨#[]⟩, .int .i64 0, .string ⟨#[43]⟩, .int .i64 0, .string ⟨#[110]⟩, .int .i64 0], 106), (#[.string ⟨#[]⟩, .string ⟨#[101]⟩], 9), (#[.int .i64 4], 3), (#[.int .i64 4, .int .i64 1, .int .i64 2], 3), (#[.int .i64 2], 3),
    (#[.int .i64 3, .slice (some ⟨b + 3, 0, none⟩) 1 1, .int .i64 0, .int .i64 4, .slice (some ⟨b + 4, 0, none⟩) 3 3, .int .i64 0, .int .i64 4, .slice (some ⟨b + 5, 0, none⟩) 1 1, .int .i64 0], 47), (G, 27), (#[.int .i64 0], 3), (#[.int .i64 1, .int .i64 2, .int .i64 3], 3),
    (#[.int .i64 2, .int .i64 (-1), .int .i64 0, .slice none 0 0, .int .i64 4, .int .i64 2, .int .i64 0, .slice (some ⟨b + 8, 0, none⟩) 1 1, .int .i64 1, .int .i64 (-1), .int .i64 1, .slice none 0 0, .int .i64 2, .int .i64 (-1), .int .i64 2, .slice none 0 0, .int .i64 4, .int .i64 1, .int .i64 0, .slice (some ⟨b + 9, 0, none⟩) 3 3], 61)]
  have hat := alls_at L w
  have hch := alls_chg w L w (Chg.refl _ _)
  rw [hb] at hat ⊢
  refine hR _ (alls w L) ⟨.agg G, .slice (some ⟨b + 10, 0, none⟩) 5 5, rfl, ?_, ?_, hch⟩
  · have up : ∀ {α : Type} {r : Rep α} {q : Nat} {v : Value} {l : List α} {o : Obj}, (alls w L).heap[q]? = some o → (rSlice r).at1 (alls w L) (q + 1) v l → (rSlice r).at1 (alls w L) (alls w L).heap.size v l := fun hq h => Rep.up h (by have := (Array.getElem?_eq_some_iff.1 hq).1; omega)
    have h1 := hat 1 _ _ rfl
    have h2 := hat 2 _ _ rfl
    have h3 := hat 3 _ _ rfl
    have h4 := hat 4 _ _ rfl
    have h5 := hat 5 _ _ rfl
    have h6 := hat 6 _ _ rfl
    have r3 : (rSlice rInt).at1 (alls w L) (b + 3 + 1) (.slice (some ⟨b + 3, 0, none⟩) 1 1) [4] := lit_at1 (l := [4]) (enc := cInt) h3 rfl (fun x hx => by simp at hx; subst hx; exact ⟨rfl, by unfold inI64; decide⟩) (by decide)
    have r4 : (rSlice rInt).at1 (alls w L) (b + 4 + 1) (.slice (some ⟨b + 4, 0, none⟩) 3 3) [4, 1, 2] := lit_at1 (l := [4, 1, 2]) (enc := cInt) h4 rfl (fun x hx => by simp at hx; rcases hx with rfl | rfl | rfl <;> exact ⟨rfl, by unfold inI64; decide⟩) (by decide)
    have r5 : (rSlice rInt).at1 (alls w L) (b + 5 + 1) (.slice (some ⟨b + 5, 0, none⟩) 1 1) [2] := lit_at1 (l := [2]) (enc := cInt) h5 rfl (fun x hx => by simp at hx; subst hx; exact ⟨rfl, by unfold inI64; decide⟩) (by decide)
    refine rGram_mk (up h1 (lit_at1 (l := g20.terms) (enc := cTerm) h1 rfl (fun x hx => ?_) (by decide))) (up h2 (lit_at1 (l := g20.nons) (enc := cStr) h2 rfl (fun x hx => ?_) (by decide))) ⟨none, 0, rfl, by decide, by decide, trivial, fun h => by cases h⟩ rfl (by unfold inI64; decide) (up h6 (lit_at1 (l := g20.prods) (enc := fun p => [.int .i64 p.1, ints1 b p.2.1, .int .i64 p.2.2]) h6 rfl (fun x hx => ?_) (by decide)))
    · simp [g20] at hx
      rcases hx with rfl | rfl | rfl <;> exact ⟨[_], [_], rfl, ⟨rfl, by decide⟩, ⟨rfl, by unfold inI64; decide⟩⟩
    · simp [g20] at hx
      rcases hx with rfl | rfl <;> exact ⟨rfl, by decide⟩
    · simp [g20] at hx
      rcases hx with rfl | rfl | rfl
      · exact ⟨[_], [_, _], rfl, ⟨rfl, by unfold inI64; decide⟩, [_], [_], rfl, Rep.up r3 (by omega), rfl, by unfold inI64; decide⟩
      · exact ⟨[_], [_, _], rfl, ⟨rfl, by unfold inI64; decide⟩, [_], [_], rfl, Rep.up r4 (by omega), rfl, by unfold inI64; decide⟩
      · exact ⟨[_], [_, _], rfl, ⟨rfl, by unfold inI64; decide⟩, [_], [_], rfl, Rep.up r5 (by omega), rfl, by unfold inI64; decide⟩
  · have h8 := hat 8 _ _ rfl
    have h9 := hat 9 _ _ rfl
    have h10 := hat 10 _ _ rfl
    have hsz := (Array.getElem?_eq_some_iff.1 h10).1
    have r8 : (rSlice rInt).at1 (alls w L) (b + 8 + 1) (.slice (some ⟨b + 8, 0, none⟩) 1 1) [0] := lit_at1 (l := [0]) (enc := cInt) h8 rfl (fun x hx => by simp at hx; subst hx; exact ⟨rfl, by unfold inI64; decide⟩) (by decide)
    have r9 : (rSlice rInt).at1 (alls w L) (b + 9 + 1) (.slice (some ⟨b + 9, 0, none⟩) 3 3) [1, 2, 3] := lit_at1 (l := [1, 2, 3]) (enc := cInt) h9 rfl (fun x hx => by simp at hx; rcases hx with rfl | rfl | rfl <;> exact ⟨rfl, by unfold inI64; decide⟩) (by decide)
    have r0 : (rSlice rInt).at1 (alls w L) (b + 10 + 1) (.slice none 0 0) [] := ⟨none, 0, rfl, by decide, by decide, trivial, fun h => by cases h⟩
    refine Rep.up (lit_at1 (l := l20) (enc := fun x => [.int .i64 x.1, .int .i64 x.2.1, .int .i64 x.2.2.1, ints2 b x.2.2.2]) h10 rfl (fun x hx => ?_) (by decide)) (B := b + 10 + 1) (by omega)
    have key : ∀ (x : Nd), inI64 x.1 → inI64 x.2.1 → inI64 x.2.2.1 → (rSlice rInt).at1 (alls w L) (b + 10 + 1) (ints2 b x.2.2.2) x.2.2.2 → rNd.ok (alls w L) (b + 10 + 1) [.int .i64 x.1, .int .i64 x.2.1, .int .i64 x.2.2.1, ints2 b x.2.2.2] x := fun x h1 h2 h3 h4 => ⟨[_], [_, _, _], rfl, ⟨rfl, h1⟩, [_], [_, _], rfl, ⟨rfl, h2⟩, [_], [_], rfl, ⟨rfl, h3⟩, h4⟩
    simp [l20] at hx
    rcases hx with rfl | rfl | rfl | rfl | rfl
    · exact key _ (by unfold inI64; decide) (by unfold inI64; decide) (by unfold inI64; decide) r0
    · exact key _ (by unfold inI64; decide) (by unfold inI64; decide) (by unfold inI64; decide) (Rep.up r8 (by omega))
    · exact key _ (by unfold inI64; decide) (by unfold inI64; decide) (by unfold inI64; decide) r0
    · exact key _ (by unfold inI64; decide) (by unfold inI64; decide) (by unfold inI64; decide) r0
    · exact key _ (by unfold inI64; decide) (by unfold inI64; decide) (by unfold inI64; decide) (Rep.up r9 (by omega))
end Go.Proofs.Ytkacbjhiobnbfaa

/-
  The chapter's example of trees is as the chapter tells.
-/
namespace Go.Px.Scan
open Go.Px Go.RowKit
theorem intV_flat (l : List Int) : intV l = l.flatMap cNdI := by rw [cNdI_flat]; rfl
theorem int_rd {G : Nat → Prop} {W w : World} {L : List Ch} {a : Option Addr} {c : Nat} {l : List Int} (h : St G W w L) (k : Nat) (hk : L[k]? = some (rowC 3 1 a l.length c (intV l))) (hl : ∀ x ∈ l, inI64 x) :
    (rSlice rInt).at1 w w.heap.size (.slice a l.length c) l := by
  obtain ⟨F, h1, _⟩ := h.get hk
  rw [intV_flat] at h1
  refine row_reads (r := rInt) (enc := cNdI) (m := l) h1 (fun _ _ => rfl) (by decide) rfl rfl (fun i x y hx hy => ?_) (Nat.le_refl _)
  rw [hx] at hy; injection hy with hy; subst hy
  exact ⟨rfl, hl _ (List.mem_of_getElem? hx)⟩
theorem box_rd {G : Nat → Prop} {W w : World} {L : List Ch} {b : Nat} {l : List Int} (h : St G W w L) (k : Nat) (hk : L[k]? = some (boxC b 3 (l.map (.int .i64 ·)))) (hl : ∀ x ∈ l, inI64 x) (hm : l.length ≤ maxLen) :
    (rSlice rInt).at1 w w.heap.size (.slice (some ⟨b, 0, none⟩) l.length l.length) l := by
  obtain ⟨F, h1, _⟩ := h.get hk
  have hb := (Array.getElem?_eq_some_iff.1 h1.2).1
  refine Rep.up (lit_at1 (l := l) (enc := cNdI) h1.2 (by rw [cNdI_flat]) (fun x hx => ⟨rfl, hl x hx⟩) hm) (by omega)
end Go.Px.Scan
namespace Go.Proofs.Ytkacbjhiobnbfaa
open Go.Px Go.Px.Scan Go.RowKit
set_option maxHeartbeats 1000000
set_option linter.unusedSimpArgs false
set_option linter.unusedVariables false
set_option maxRecDepth 100000
attribute [-go_sem] law20_awake.b1_10 law20_awake.b1_9 law20_awake.b1_8 law20_awake.b1_7 law20_awake.b1_6 law20_awake.b1_5 law20_awake.b1_4 law20_awake.b1_3 law20_awake.b1_2 law20_awake.b1_1

theorem New_ct (w : World) : Ct Try.prog tree_New.id #[] w fun v w' => v = .pointer (some ⟨w.heap.size, 0, none⟩) ∧ St noB w w' [boxC w.heap.size 81 [.slice none 0 0, .slice none 0 0]] := by
  refine tree_New.ct fun R hR => ?_
  unfold tree_New.run
  simp -dsimp [go_sem]
  exact hR _ _ ⟨rfl, (St.refl noB w).alloc #[.slice none 0 0, .slice none 0 0] 81⟩
theorem in64_small {l : List Int} (h : ∀ x ∈ l, 0 ≤ x ∧ x ≤ 1000) : ∀ x ∈ l, inI64 x := fun x hx => by have := h x hx; unfold inI64; omega
theorem awake20_ct (w : World) : Ct Try.prog law20_awake.id #[] w fun v w' => v = .bool true ∧ Chg noB w w' := by
  refine law20_awake.ct fun R hR => ?_
  unfold law20_awake.run
  simp -dsimp [go_sem]
  refine CALL_of (chapter_ct w) ?_
  rintro _ w1 ⟨vg, nv, rfl, hg, hn, hc1⟩
  obtain ⟨A1, c1, A2, c2, A3, c3, A4, c4, rfl, _⟩ := (rGram_open hg).ex
  unfold law20_awake.b1_10
  have s1 := (St.refl noB w1).alloc #[.slice A1 g20.terms.length c1, .slice A2 g20.nons.length c2, .slice A3 g20.levels.length c3, .int .i64 g20.start, .slice A4 g20.prods.length c4] 27
  simp -dsimp [go_sem]
  generalize w1.alloc (.cells #[.slice A1 g20.terms.length c1, .slice A2 g20.nons.length c2, .slice A3 g20.levels.length c3, .int .i64 g20.start, .slice A4 g20.prods.length c4] 27) = w2 at s1 ⊢
  generalize hq : w1.heap.size = q at s1 ⊢
  have rn : ∀ {w'}, Chg noB w1 w' → (rSlice rNd).at1 w' w1.heap.size nv l20 ∧ w1.heap.size ≤ w'.heap.size := fun hc => ⟨Rep.below hn (hc.below (Nat.le_refl _) fun _ _ => id), hc.size⟩
  have rg : ∀ {w'}, Chg noB w1 w' → rGram.atN w' w1.heap.size (.agg #[.slice A1 g20.terms.length c1, .slice A2 g20.nons.length c2, .slice A3 g20.levels.length c3, .int .i64 g20.start, .slice A4 g20.prods.length c4]) g20 ∧ w1.heap.size ≤ w'.heap.size := fun hc => ⟨rGram_below hg (hc.below (Nat.le_refl _) fun _ _ => id), hc.size⟩
  have hN : l20.length ≤ 3000000000000 := by decide
  have hkd : ∀ x ∈ l20, x.2.2.2.length * 8 ≤ maxBytes := by decide
  have h4 : inI64 4 := by unfold inI64; decide
  refine CALL_of (Frontier_ct (rn s1.chg).1 (rn s1.chg).2 hN hkd h4) ?_
  intro v3 w3 hp
  rw [l20_fr] at hp
  obtain ⟨fa, fc, rfl, s3⟩ := hp
  have s3 := s1.seq s3
  unfold law20_awake.b1_9
  simp -dsimp [go_sem]
  refine CALL_of (Rightmost_ct (rn s3.chg).1 (rn s3.chg).2 hN hkd h4) ?_
  intro v4 w4 hp
  rw [l20_rm] at hp
  obtain ⟨ra, rc, rfl, s4⟩ := hp
  have s4 := s3.seq s4
  unfold law20_awake.b1_8
  have y4 := s4.box 0 rfl
  simp [boxAt] at y4
  simp -dsimp [go_sem, y4]
  refine CALL_of (TreeText_ct (rg s4.chg).1 (rn s4.chg).1 (rn s4.chg).2 hN hkd h4) ?_
  rintro _ w5 ⟨rfl, hc5⟩
  have s5 := s4.old hc5
  rw [l20_tx]
  unfold law20_awake.b1_7
  simp -dsimp [go_sem]
  unfold law20_awake.b1_6
  simp -dsimp [go_sem]
  unfold law20_awake.b1_5
  have s6 := s5.alloc #[.int .i64 2, .int .i64 1, .int .i64 2] 3
  simp -dsimp [go_sem]
  generalize w5.alloc (.cells #[.int .i64 2, .int .i64 1, .int .i64 2] 3) = w6 at s6 ⊢
  generalize w5.heap.size = b6 at s6 ⊢
  have d212 : ∀ x ∈ [(2 : Int), 1, 2], inI64 x := in64_small (by simp)
  have d12 : ∀ x ∈ [(1 : Int), 2], inI64 x := in64_small (by simp)
  have d21 : ∀ x ∈ [(2 : Int), 1], inI64 x := in64_small (by simp)
  refine CALL_of (Ints_ct (int_rd (l := [2, 1, 2]) s6 1 rfl d212) (box_rd (l := [2, 1, 2]) s6 3 rfl d212 (by decide)) (Nat.le_refl _)) ?_
  rintro _ w7 ⟨rfl, hc7⟩
  have s7 := s6.old hc7
  simp -dsimp [go_sem]
  unfold law20_awake.b1_4
  have s8 := s7.alloc #[.int .i64 1, .int .i64 2] 3
  simp -dsimp [go_sem]
  generalize w7.alloc (.cells #[.int .i64 1, .int .i64 2] 3) = w8 at s8 ⊢
  generalize w7.heap.size = b8 at s8 ⊢
  refine CALL_of (Ints_ct (int_rd (l := [1, 2]) s8 2 rfl d12) (box_rd (l := [1, 2]) s8 4 rfl d12 (by decide)) (Nat.le_refl _)) ?_
  rintro _ w9 ⟨rfl, hc9⟩
  have s9 := s8.old hc9
  have ba : ∀ l : Txt, (BA l).toList = l := fun l => by rw [ByteArray.toList_eq]; simp [BA]
  simp -dsimp [go_sem, ba, t20]
  unfold law20_awake.b1_3
  have y9 := s9.box 0 rfl
  simp [boxAt] at y9
  have s10 := s9.alloc #[.int .i64 2, .int .i64 1, .int .i64 2] 3
  simp -dsimp [go_sem, y9]
  generalize w9.alloc (.cells #[.int .i64 2, .int .i64 1, .int .i64 2] 3) = w10 at s10 ⊢
  generalize w9.heap.size = b10 at s10 ⊢
  have up1 : ∀ {w'}, Chg noB w1 w' → rGram.atN w' w'.heap.size (.agg #[.slice A1 g20.terms.length c1, .slice A2 g20.nons.length c2, .slice A3 g20.levels.length c3, .int .i64 g20.start, .slice A4 g20.prods.length c4]) g20 := fun hc => rGram_up (rg hc).1 (rg hc).2
  have up2 : ∀ {w'}, Chg noB w1 w' → (rSlice rNd).at1 w' w'.heap.size nv l20 := fun hc => Rep.up (rn hc).1 (rn hc).2
  refine CALL_of (Derives_ct (up1 s10.chg) (up2 s10.chg) (box_rd (l := [2, 1, 2]) s10 5 rfl d212 (by decide)) (Nat.le_refl _) hN hkd h4) ?_
  rintro _ w11 ⟨rfl, hc11⟩
  have s11 := s10.old hc11
  rw [l20_d1]
  simp -dsimp [go_sem]
  unfold law20_awake.b1_2
  have y11 := s11.box 0 rfl
  simp [boxAt] at y11
  have s12 := s11.alloc #[.int .i64 2, .int .i64 1] 3
  simp -dsimp [go_sem, y11]
  generalize w11.alloc (.cells #[.int .i64 2, .int .i64 1] 3) = w12 at s12 ⊢
  generalize w11.heap.size = b12 at s12 ⊢
  refine CALL_of (Derives_ct (up1 s12.chg) (up2 s12.chg) (box_rd (l := [2, 1]) s12 6 rfl d21 (by decide)) (Nat.le_refl _) hN hkd h4) ?_
  rintro _ w13 ⟨rfl, hc13⟩
  rw [l20_d2]
  simp -dsimp [go_sem]
  unfold law20_awake.b1_1
  refine CALL_of (New_ct w13) ?_
  rintro _ w14 ⟨rfl, s14⟩
  simp -dsimp [go_sem]
  exact hR _ _ ⟨rfl, hc1.trans ((s12.chg.trans hc13).trans s14.chg)⟩
end Go.Proofs.Ytkacbjhiobnbfaa
