/-
  Texts of this claim: PxLend, PxGrp.
-/
import Derived.Test.YtkacbjhiobnbfaaY02
import Derived.Laws.OwnMore
/-
  Calls that are given a piece and a list that was laid down just ahead.
-/
namespace Go.Px
open Go.RowKit
/-- What a call did to a piece. -/
def DoneC (F : Nat → Prop) (w : World) (c : Ch) (w' : World) : Prop := Chg F w w' ∧ c.ok w' (fun i => F i ∨ (w.heap.size ≤ i ∧ i < w'.heap.size))
theorem DoneC.of_st {F : Nat → Prop} {w w' : World} {L : List Ch} {c : Ch} (h : St F w w' L) (hc : ∀ F', allOk L w' F' → c.ok w' F') : DoneC F w c w' := ⟨h.chg, hc _ h.leave⟩
open Classical in
/-- One piece alone. -/
theorem St.one {F : Nat → Prop} {w : World} {c : Ch} (h : c.ok w F) : St F w w [c] := St.enter ⟨fun i => if F i ∧ i < w.heap.size then 1 else 0, fun i hi => by
    by_cases e : F i ∧ i < w.heap.size
    · exact e
    · dsimp only at hi; rw [if_neg e] at hi; exact absurd rfl hi, fun k d hk => by
    match k, hk with
    | 0, hk => injection hk with hk; subst hk; exact c.keep h (Chg.refl noB _) (fun _ _ _ => id) fun i h1 h2 => by simp [h1, h2]
    | k + 1, hk => simp at hk⟩
theorem St.oneDone {F : Nat → Prop} {w w' : World} {c : Ch} {L : List Ch} (h : St F w w' (c :: L)) : DoneC F w c w' := by
  obtain ⟨T, hT, hk⟩ := h.leave
  exact ⟨h.chg, c.keep (hk 0 _ rfl) (Chg.refl noB _) (fun _ _ _ => id) fun i _ e => (hT i (by omega)).1⟩
section
variable {G : Nat → Prop} {W w w1 : World} {L : List Ch}
/-- A call that is given a piece. -/
theorem CALL_piece {P : Program} {X : Pan} {f : FuncId} {args : Array Value} {K : Value → World → Prop} (h : St G W w L) (k : Nat) {c0 : Ch} (hk : L[k]? = some c0) {S : Value → World → (Nat → Prop) → Prop}
    (hct : ∀ F, c0.ok w F → (∀ i, F i → i < w.heap.size ∧ (i < W.heap.size → G i)) → Ct P f args w fun v w' => S v w' F) (hK : ∀ F v w', S v w' F → (∀ c, DoneC F w c w' → St G W w' (L.set k c)) → K v w') : CALL P X f args w K := by
  obtain ⟨F, ho, hF, hs⟩ := h.opn hk
  exact CALL_of (hct F ho hF) fun v w' hS => hK F v w' hS fun c hc => hs w' c hc.1 hc.2
/-- .. and there are new blocks that the piece has no part of. -/
theorem CALL_new {P : Program} {X : Pan} {f : FuncId} {args : Array Value} {K : Value → World → Prop} (h : St G W w1 L) (hn : Chg noB w1 w) (k : Nat) {c0 : Ch} (hk : L[k]? = some c0) {S : Value → World → (Nat → Prop) → Prop}
    (hct : ∀ F, c0.ok w F → (∀ i, F i → i < w1.heap.size ∧ (i < W.heap.size → G i)) → Ct P f args w fun v w' => S v w' F) (hK : ∀ F v w', S v w' F → (∀ c, DoneC F w c w' → St G W w' (L.set k c)) → K v w') : CALL P X f args w K := by
  obtain ⟨F, ho, hF, hs⟩ := h.opn hk
  refine CALL_of (hct F (c0.keep ho hn (fun _ _ _ => id) fun _ _ e => e) hF) fun v w' hS => hK F v w' hS fun c hc => hs w' c ((hn.mono fun i _ (e : noB i) => e.elim).trans' hc.1 fun _ _ e => e) (c.keep (X := noB) hc.2 (Chg.refl _ _) (fun _ _ _ => id) fun i hi e => ?_)
  rcases e with e | e
  · exact Or.inl e
  · exact Or.inr ⟨by have := hn.size; omega, e.2⟩
end
/-- A list in a block. -/
theorem lit_at1 {α : Type} {r : Rep α} {enc : α → List Value} {w : World} {q : Nat} {e : TypeId} {fz : Nat × Nat} {l : List α} {cs : Array Value} (hq : w.heap[q]? = some (.cells cs e fz)) (hcs : cs.toList = l.flatMap enc) (hr : ∀ x ∈ l, r.ok w (q + 1) (enc x) x) (hl : l.length ≤ maxLen) :
    (rSlice r).at1 w (q + 1) (.slice (some ⟨q, 0, none⟩) l.length l.length) l := by
  refine ⟨_, _, rfl, Nat.le_refl _, hl, trivial, fun _ => ⟨q, 0, rfl, by omega, fun i x hi => ⟨enc x, hr x (List.mem_of_getElem? hi), fun j u hj => ?_⟩⟩⟩
  have hs : ∀ x ∈ l, (enc x).length = r.size := fun x hx => r.len (hr x hx)
  have hj2 : j < r.size := by rw [← hs x (List.mem_of_getElem? hi)]; exact (List.getElem?_eq_some_iff.1 hj).1
  have h1 := flat_at hs hi hj2
  rw [hj, ← hcs] at h1
  simp only [World.cell?, hq, Nat.zero_add]
  simpa using h1
theorem lit_str {w w1 : World} {X : Nat → Prop} {s : ByteArray} {e : TypeId} (hX : ∀ i, X i → i < w.heap.size) (hs : s.size ≤ maxLen) (hc : Chg X (w.alloc (.cells #[.string s] e)) w1) : (rSlice rStr).at1 w1 (w.heap.size + 1) (.slice (some ⟨w.heap.size, 0, none⟩) 1 1) [s] := by
  refine lit_at1 (l := [s]) (enc := fun s => [.string s]) ((hc.block _ (by simp) fun h => by have := hX _ h; omega).trans (World.alloc_heap_new w _)) rfl (fun x hx => ?_) (by simp [maxLen])
  simp at hx; subst hx; exact ⟨rfl, hs⟩
theorem lit_int {w w1 : World} {X : Nat → Prop} {s : Int} {e : TypeId} (hX : ∀ i, X i → i < w.heap.size) (hs : inI64 s) (hc : Chg X (w.alloc (.cells #[.int .i64 s] e)) w1) : (rSlice rInt).at1 w1 (w.heap.size + 1) (.slice (some ⟨w.heap.size, 0, none⟩) 1 1) [s] := by
  refine lit_at1 (l := [s]) (enc := fun s => [.int .i64 s]) ((hc.block _ (by simp) fun h => by have := hX _ h; omega).trans (World.alloc_heap_new w _)) rfl (fun x hx => ?_) (by simp [maxLen])
  simp at hx; subst hx; exact ⟨rfl, hs⟩

section
variable {G : Nat → Prop} {W w : World} {L : List Ch}
theorem flat_len' {α : Type} {enc : α → List Value} {size : Nat} : ∀ l : List α, (∀ x ∈ l, (enc x).length = size) → (l.flatMap enc).length = l.length * size
  | [], _ => by simp
  | x :: t, h => by rw [List.flatMap_cons, List.length_append, h x (by simp), flat_len' t fun y hy => h y (by simp [hy]), List.length_cons, Nat.succ_mul]; omega
/-- append, of all that a slice has. -/
theorem St.appendRd {α : Type} {r : Rep α} {enc : α → List Value} {P : Program} {X : Pan} {K : Value → World → Prop} (h : St G W w L) (k : Nat) {t ty e : TypeId} {z : Value} {bytes : Nat} {a0 : Option Addr} {n c : Nat} {xs : List Value} (hk : L[k]? = some (rowC e r.size a0 n c xs))
    (ht : P.underlying t = some (.slice e)) (hi : (P.info? e).map (fun i => (i.zero, i.size, i.bytes)) = some (some z, r.size, bytes)) (hzs : z.cells.size = r.size) (hsz : 0 < r.size)
    {A : Option Addr} {c1 B : Nat} {l : List α} (hr : (rSlice r).at1 w B (.slice A l.length c1) l) (henc : ∀ {ys x}, r.ok w B ys x → x ∈ l → ys = enc x) (hone : ∀ x ∈ l, ∀ u ∈ enc x, u.oneCell' = true) (hlen : ∀ x ∈ l, (enc x).length = r.size)
    (h63 : n + l.length ≤ maxLen) (hbytes : (n + l.length) * bytes ≤ maxBytes)
    (hK : ∀ a' cap w', St G W w' (L.set k (rowC e r.size a' (n + l.length) cap (xs ++ l.flatMap enc))) → K (.slice a' (n + l.length) cap) w') :
    RES X ((Builtin.append_ #[t, t] ty #[.slice a0 n c, .slice A l.length c1]).run P w) K := by
  cases A with
  | none =>
    have hl : l = [] := by
      obtain ⟨A', c', hv, h1, h2, h3, h4⟩ := hr
      rcases Nat.eq_zero_or_pos l.length with h0 | h0
      · exact List.eq_nil_of_length_eq_zero h0
      · obtain ⟨b, o, e, _⟩ := h4 h0
        injection hv with hv; injection hv with hA; rw [e] at hA; cases hA
    subst hl
    obtain ⟨i, hi', hz, hs1, hb1⟩ : ∃ i, P.info? e = some i ∧ i.zero = some z ∧ i.size = r.size ∧ i.bytes = bytes := by
      cases hq : P.info? e with
      | none => rw [hq] at hi; cases hi
      | some i => rw [hq] at hi; simp at hi; exact ⟨i, rfl, hi.1, hi.2.1, hi.2.2⟩
    obtain ⟨F, ho, _⟩ := h.get hk
    have hrun : (Builtin.append_ #[t, t] ty #[.slice a0 n c, .slice none 0 c1]).run P w = .ok (.slice a0 n c) w := by
      rcases ho.1.2 with ⟨h1, rfl⟩ | ⟨g, cap, cur, h1, _, _, hnc, _⟩
      · injection h1 with h1 h2 h3; subst h1 h3
        simp [Builtin.append_, run_underlying ht, sizeOf, typeInfo, hi', Builtin.lenOf, Builtin.firstCells]
      · injection h1 with h1 h2 h3; subst h1 h3
        simp [Builtin.append_, run_underlying ht, sizeOf, typeInfo, hi', Builtin.lenOf, Builtin.firstCells, hnc, storeCells]
    rw [List.length_nil, hrun, RES_ok]
    exact hK a0 c w (h.turn hk fun F hf => by simpa using hf)
  | some a =>
    refine h.appendN k hk ht hi hzs hsz (flat_len' l hlen) (fun j u hj => ?_) (fun u hu => ?_) h63 hbytes fun a' cap w' h' _ => hK a' cap w' h'
    · have hlen' := flat_len' l hlen
      have hjl : j < l.length * r.size := by rw [← hlen']; exact (List.getElem?_eq_some_iff.1 hj).1
      have hi2 : j / r.size < l.length := (Nat.div_lt_iff_lt_mul hsz).2 hjl
      have hm : j % r.size < r.size := Nat.mod_lt _ hsz
      have hdm : j / r.size * r.size + j % r.size = j := by rw [Nat.mul_comm]; exact Nat.div_add_mod j r.size
      obtain ⟨b', o', ys, hA, hb, hok, hc⟩ := slice_at hr hi2
      injection hA with hA; subst hA
      have hy := henc hok (List.getElem_mem hi2)
      have hf := flat_at hlen (List.getElem?_eq_getElem hi2) hm
      rw [hdm, hj] at hf
      have := hc (j % r.size) u (by rw [hy]; exact hf.symm)
      rw [Addr.add_lit, show o' + j = o' + (j / r.size * r.size + j % r.size) by omega]
      exact this
    · obtain ⟨x, hx, hu⟩ := List.mem_flatMap.1 hu
      exact hone x hx u hu
end
end Go.Px

/-
  Pieces in groups: the last piece is several pieces.
-/
namespace Go.Px
open Go.RowKit
section
variable {G : Nat → Prop} {W w : World} {L L' : List Ch}

/-- Pieces, as one piece. -/
theorem St.group (h : St G W w L) : St G W w [Ch.all L] := by
  classical
  refine ⟨h.chg, fun i => if (i < W.heap.size → G i) ∧ i < w.heap.size then 1 else 0, fun i hi => ?_, fun k d hk => ?_⟩
  · by_cases hf : (i < W.heap.size → G i) ∧ i < w.heap.size
    · exact hf
    · simp [hf] at hi
  · match k, hk with
    | 0, hk =>
      injection hk with hk; subst hk
      exact allOk.keep h.all (Chg.refl noB w) (fun _ _ _ => id) (fun i hl hi => by show ite _ _ _ = _; rw [if_pos ⟨hi, hl⟩])
    | k + 1, hk => simp at hk

/-- The last piece's pieces. -/
theorem St.flat (h : St G W w (L ++ [Ch.all L'])) : St G W w (L ++ L') := by
  classical
  obtain ⟨hc, T, ht, hL⟩ := h
  obtain ⟨T', ht', hL'⟩ := hL L.length (Ch.all L') (by simp)
  refine ⟨hc, fun i => if T i = L.length + 1 then (if T' i = 0 then 0 else T' i + L.length) else T i, fun i hi => ?_, fun k d hk => ?_⟩
  · by_cases e : T i = L.length + 1
    · exact ht i (by omega)
    · dsimp only at hi; rw [if_neg e] at hi; exact ht i hi
  · by_cases hkl : k < L.length
    · rw [List.getElem?_append_left hkl] at hk
      refine d.keep (X := noB) (hL k d (by rw [List.getElem?_append_left hkl]; exact hk)) (Chg.refl _ _) (fun _ _ _ => id) fun i _ e => ?_
      dsimp only; rw [if_neg (by omega)]; exact e
    · rw [List.getElem?_append_right (by omega)] at hk
      refine d.keep (X := noB) (hL' _ d hk) (Chg.refl _ _) (fun _ _ _ => id) fun i _ e => ?_
      have e' : T' i = k - L.length + 1 := e
      have := (ht' i (by omega)).1
      dsimp only; rw [if_pos this, if_neg (by omega)]; omega

/-- The last pieces, as one. -/
theorem St.unflat (h : St G W w (L ++ L')) : St G W w (L ++ [Ch.all L']) := by
  classical
  obtain ⟨hc, T, ht, hL⟩ := h
  refine ⟨hc, fun i => if L.length < T i then L.length + 1 else T i, fun i hi => ?_, fun k d hk => ?_⟩
  · by_cases e : L.length < T i
    · exact ht i (by omega)
    · dsimp only at hi; rw [if_neg e] at hi; exact ht i hi
  · by_cases hkl : k < L.length
    · rw [List.getElem?_append_left hkl] at hk
      refine d.keep (X := noB) (hL k d (by rw [List.getElem?_append_left hkl]; exact hk)) (Chg.refl _ _) (fun _ _ _ => id) fun i _ e => ?_
      dsimp only; rw [if_neg (by omega)]; exact e
    · rw [List.getElem?_append_right (by omega)] at hk
      have hk0 : k = L.length := by
        have := (List.getElem?_eq_some_iff.1 hk).1; simp at this; omega
      subst hk0
      simp at hk
      subst hk
      refine ⟨fun i => if L.length < T i then T i - L.length else 0, fun i hi => ?_, fun j c hj => ?_⟩
      · by_cases e : L.length < T i
        · exact ⟨by dsimp only; rw [if_pos e], (ht i (by omega)).2⟩
        · dsimp only at hi; rw [if_neg e] at hi; exact absurd rfl hi
      · have hjl := (List.getElem?_eq_some_iff.1 hj).1
        refine c.keep (X := noB) (hL (L.length + j) c (by rw [List.getElem?_append_right (by omega), Nat.add_sub_cancel_left]; exact hj)) (Chg.refl _ _) (fun _ _ _ => id) fun i _ e => ?_
        have e' : T i = L.length + j + 1 := e
        dsimp only; rw [if_pos (by omega)]; omega
end
end Go.Px
