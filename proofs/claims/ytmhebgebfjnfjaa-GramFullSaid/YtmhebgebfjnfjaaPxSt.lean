/-
  Memory in pieces: each piece lies in blocks of its own; what is done to one leaves the others.
-/
import Derived.Test.YtmhebgebfjnfjaaPxMap
import Derived.WalkSmall
namespace Go.Px
open Go.RowKit

/-- A piece of memory. -/
structure Ch where
  ok : World → (Nat → Prop) → Prop
  keep : ∀ {w w' : World} {X F F' : Nat → Prop}, ok w F → Chg X w w' → (∀ b, b < w.heap.size → F b → ¬ X b) → (∀ b, b < w.heap.size → F b → F' b) → ok w' F'

/-- Pieces, each with blocks of its own. -/
def allOk (L : List Ch) (w : World) (F : Nat → Prop) : Prop :=
  ∃ T : Nat → Nat, (∀ i, T i ≠ 0 → F i ∧ i < w.heap.size) ∧ ∀ (k : Nat) (c : Ch), L[k]? = some c → c.ok w (fun i => T i = k + 1)

theorem allOk.keep {L : List Ch} {w w' : World} {X F F' : Nat → Prop} (h : allOk L w F) (hc : Chg X w w') (hX : ∀ b, b < w.heap.size → F b → ¬ X b) (hF : ∀ b, b < w.heap.size → F b → F' b) : allOk L w' F' := by
  obtain ⟨T, ht, hk⟩ := h
  exact ⟨T, fun i hi => ⟨hF i (ht i hi).2 (ht i hi).1, Nat.lt_of_lt_of_le (ht i hi).2 hc.size⟩, fun k c hc' => c.keep (hk k c hc') hc (fun b hb e => hX b hb (ht b (by omega)).1) fun b _ e => e⟩

def Ch.all (L : List Ch) : Ch := ⟨allOk L, allOk.keep⟩
def Ch.ex {α : Type} (f : α → Ch) : Ch := ⟨fun w F => ∃ a, (f a).ok w F, fun ⟨a, h⟩ hc hX hF => ⟨a, (f a).keep h hc hX hF⟩⟩
/-- A piece with a fact. -/
def Ch.fact (p : Prop) (c : Ch) : Ch := ⟨fun w F => p ∧ c.ok w F, fun ⟨hp, h⟩ hc hX hF => ⟨hp, c.keep h hc hX hF⟩⟩
def Ch.emp : Ch := ⟨fun _ _ => True, fun _ _ _ _ => trivial⟩

/-- From W on nothing has turned but blocks G of W's; and there are these pieces, in those or in new ones. -/
structure St (G : Nat → Prop) (W w : World) (L : List Ch) : Prop where
  chg : Chg G W w
  all : allOk L w (fun i => i < W.heap.size → G i)

abbrev noB : Nat → Prop := fun _ => False

section
variable {G : Nat → Prop} {W w w' : World} {L L' : List Ch}

theorem St.start (h : Chg G W w) : St G W w [] := ⟨h, fun _ => 0, fun i hi => absurd rfl hi, fun k c hk => by simp at hk⟩
theorem St.refl (G : Nat → Prop) (w : World) : St G w w [] := St.start (Chg.refl _ _)

/-- What a call may do to a piece that it is given. -/
theorem St.enter {F : Nat → Prop} (h : allOk L w F) : St F w w L := by
  obtain ⟨T, ht, hk⟩ := h
  exact ⟨Chg.refl _ _, T, fun i hi => ⟨fun _ => (ht i hi).1, (ht i hi).2⟩, hk⟩
theorem St.leave {F : Nat → Prop} (h : St F w w' L) : allOk L w' (fun i => F i ∨ (w.heap.size ≤ i ∧ i < w'.heap.size)) := by
  obtain ⟨_, T, ht, hk⟩ := h
  refine ⟨T, fun i hi => ⟨?_, (ht i hi).2⟩, hk⟩
  by_cases hlt : i < w.heap.size
  · exact Or.inl ((ht i hi).1 hlt)
  · exact Or.inr ⟨by omega, (ht i hi).2⟩

theorem St.get (h : St G W w L) {k : Nat} {c : Ch} (hk : L[k]? = some c) : ∃ F : Nat → Prop, c.ok w F ∧ ∀ i, F i → i < w.heap.size ∧ (i < W.heap.size → G i) := by
  obtain ⟨_, T, ht, hL⟩ := h
  exact ⟨_, hL k c hk, fun i hi => ⟨(ht i (by omega)).2, (ht i (by omega)).1⟩⟩

theorem St.old (h : St G W w L) (hc : Chg noB w w') : St G W w' L :=
  ⟨h.chg.trans' hc fun _ _ h => h.elim, h.all.keep hc (fun _ _ _ => id) (fun _ _ h => h)⟩

/-- A piece is turned. -/
theorem St.opn (h : St G W w L) {k : Nat} {c0 : Ch} (hk : L[k]? = some c0) :
    ∃ F : Nat → Prop, c0.ok w F ∧ (∀ i, F i → i < w.heap.size ∧ (i < W.heap.size → G i)) ∧ ∀ (w' : World) (c : Ch), Chg F w w' → c.ok w' (fun i => F i ∨ (w.heap.size ≤ i ∧ i < w'.heap.size)) → St G W w' (L.set k c) := by
  obtain ⟨hc0, T, ht, hL⟩ := h
  refine ⟨fun i => T i = k + 1, hL k c0 hk, fun i hi => ⟨(ht i (by omega)).2, (ht i (by omega)).1⟩, fun w' c hc hok => ⟨?_, fun i => if w.heap.size ≤ i ∧ i < w'.heap.size then k + 1 else T i, fun i hi => ?_, fun j d hj => ?_⟩⟩
  · exact hc0.trans' hc fun i hi e => (ht i (by omega)).1 hi
  · by_cases e : w.heap.size ≤ i ∧ i < w'.heap.size
    · exact ⟨fun h => by have := hc0.size; omega, e.2⟩
    · dsimp only at hi; rw [if_neg e] at hi
      exact ⟨(ht i hi).1, Nat.lt_of_lt_of_le (ht i hi).2 hc.size⟩
  · rw [List.getElem?_set] at hj
    by_cases e : k = j
    · subst e
      have hkl := (List.getElem?_eq_some_iff.1 hk).1
      rw [if_pos rfl, if_pos hkl] at hj
      injection hj with hj
      subst hj
      refine c.keep (X := noB) hok (Chg.refl _ _) (fun _ _ _ => id) fun i hi e => ?_
      rcases e with e | e
      · have h1 := (ht i (by omega)).2
        dsimp only; rw [if_neg (by omega)]; exact e
      · dsimp only; rw [if_pos e]
    · rw [if_neg e] at hj
      refine d.keep (hL j d hj) hc (fun i hi e1 e2 => by omega) fun i hi e1 => ?_
      dsimp only; rw [if_neg (by omega)]; exact e1

/-- New pieces. -/
theorem St.seq (h : St G W w L) (h2 : St noB w w' L') : St G W w' (L ++ L') := by
  obtain ⟨hc, T, ht, hL⟩ := h
  obtain ⟨hc2, T2, ht2, hL2⟩ := h2
  refine ⟨hc.trans' hc2 fun _ _ h => h.elim, fun i => if T2 i ≠ 0 then T2 i + L.length else T i, fun i hi => ?_, fun k c hk => ?_⟩
  · by_cases e : T2 i ≠ 0
    · exact ⟨fun hi => ((ht2 i e).1 (by have := hc.size; omega)).elim, (ht2 i e).2⟩
    · dsimp only at hi; rw [if_neg e] at hi
      exact ⟨(ht i hi).1, Nat.lt_of_lt_of_le (ht i hi).2 hc2.size⟩
  · by_cases hkl : k < L.length
    · rw [List.getElem?_append_left hkl] at hk
      refine c.keep (hL k c hk) hc2 (fun _ _ _ => id) fun i hi e => ?_
      dsimp only; rw [if_neg]; exact e
      intro h0
      exact ((ht2 i h0).1 hi).elim
    · rw [List.getElem?_append_right (by omega)] at hk
      refine c.keep (X := noB) (hL2 _ c hk) (Chg.refl _ _) (fun _ _ _ => id) fun i hi e => ?_
      dsimp only; rw [if_pos (by omega)]; omega

theorem St.take (h : St G W w L) (n : Nat) : St G W w (L.take n) := by
  obtain ⟨hc, T, ht, hL⟩ := h
  refine ⟨hc, T, ht, fun k c hk => hL k c ?_⟩
  rw [List.getElem?_take] at hk
  split at hk
  · exact hk
  · cases hk

/-- Some of the pieces, in another order. -/
theorem St.pick (h : St G W w L) (is : List Nat) (hnd : is.Nodup) (hL : is.map (fun i => L[i]?) = L'.map some) : St G W w L' := by
  obtain ⟨hc, T, ht, hk⟩ := h
  refine ⟨hc, fun i => if T i = 0 then 0 else if T i - 1 ∈ is then is.idxOf (T i - 1) + 1 else 0, fun i hi => ?_, fun k c hc' => ?_⟩
  · refine ht i fun h0 => ?_
    dsimp only at hi
    rw [if_pos h0] at hi
    exact hi rfl
  · have h1 : (is.map (fun i => L[i]?))[k]? = some (some c) := by rw [hL, List.getElem?_map, hc']; rfl
    rw [List.getElem?_map] at h1
    cases hi : is[k]? with
    | none => rw [hi] at h1; cases h1
    | some n =>
      rw [hi] at h1
      injection h1 with h1
      refine c.keep (X := noB) (hk n c h1) (Chg.refl _ _) (fun _ _ _ => id) fun i _ e => ?_
      have hnm : n ∈ is := List.mem_of_getElem? hi
      have hidx : is.idxOf n = k := by
        have hkl := (List.getElem?_eq_some_iff.1 hi).1
        have hke := (List.getElem?_eq_some_iff.1 hi).2
        rw [← hke]
        exact hnd.idxOf_getElem k hkl
      have e' : T i = n + 1 := e
      simp only [e', Nat.add_sub_cancel, hnm, if_true, hidx]
      rw [if_neg (by omega)]

theorem St.push (h : St G W w L) {c : Ch} (hc : c.ok w noB) : St G W w (L ++ [c]) := by
  refine h.seq (w' := w) ⟨Chg.refl _ _, fun _ => 0, fun i hi => absurd rfl hi, fun k d hk => ?_⟩
  match k, hk with
  | 0, hk => injection hk with hk; subst hk; exact c.keep hc (Chg.refl noB _) (fun _ _ _ => id) (fun _ _ h => h.elim)
  | k + 1, hk => simp at hk

/-- A piece is laid to another one. -/
theorem St.merge (h : St G W w L) {j k : Nat} {c d : Ch} (hj : L[j]? = some c) (hk : L[k]? = some d) (hjk : j ≠ k) {e : Ch} (he : ∀ F F', c.ok w F → d.ok w F' → e.ok w (fun i => F i ∨ F' i)) : St G W w ((L.set j Ch.emp).set k e) := by
  obtain ⟨hc, T, ht, hL⟩ := h
  refine ⟨hc, fun i => if T i = j + 1 then k + 1 else T i, fun i hi => ?_, fun n x hn => ?_⟩
  · by_cases e : T i = j + 1
    · exact ht i (by omega)
    · dsimp only at hi; rw [if_neg e] at hi; exact ht i hi
  · rw [List.getElem?_set] at hn
    by_cases e1 : k = n
    · subst e1
      have hkl := (List.getElem?_eq_some_iff.1 hk).1
      rw [if_pos rfl, if_pos (by simpa using hkl)] at hn
      injection hn with hn
      subst hn
      refine e.keep (X := noB) (he _ _ (hL j c hj) (hL k d hk)) (Chg.refl _ _) (fun _ _ _ => id) fun i hi e => ?_
      rcases e with e | e
      · dsimp only; rw [if_pos e]
      · dsimp only; rw [if_neg (by omega)]; exact e
    · rw [if_neg e1, List.getElem?_set] at hn
      by_cases e2 : j = n
      · subst e2
        have hjl := (List.getElem?_eq_some_iff.1 hj).1
        rw [if_pos rfl, if_pos hjl] at hn
        injection hn with hn
        subst hn; trivial
      · rw [if_neg e2] at hn
        refine x.keep (X := noB) (hL n x hn) (Chg.refl _ _) (fun _ _ _ => id) fun i hi e => ?_
        dsimp only; rw [if_neg (by omega)]; exact e

/-- A piece is seen in another way. -/
theorem St.turn (h : St G W w L) {k : Nat} {c d : Ch} (hk : L[k]? = some c) (hd : ∀ F, c.ok w F → d.ok w F) : St G W w (L.set k d) := by
  obtain ⟨F, ho, _, hs⟩ := h.opn hk
  exact hs w d (Chg.refl _ _) (d.keep (hd F ho) (Chg.refl noB _) (fun _ _ _ => id) fun _ _ h => Or.inl h)
end

/-! ### Kinds of pieces -/
/-- A block of its own. -/
def boxC (b : Nat) (t : TypeId) (cs : List Value) : Ch where
  ok w F := F b ∧ w.heap[b]? = some (.cells cs.toArray t (0, 0))
  keep h hc hX hF := by
    have hb := (Array.getElem?_eq_some_iff.1 h.2).1
    exact ⟨hF _ hb h.1, (hc.block b hb (hX b hb h.1)).trans h.2⟩

/-- A row that is owned: it may grow. -/
def rowC (e : TypeId) (size : Nat) (a : Option Addr) (n c : Nat) (xs : List Value) : Ch where
  ok w F := w.ownsRow 0 e size (.slice a n c) n xs ∧ ∀ i, (Value.slice a n c).ownBlock = some i → F i
  keep h hc hX hF := by
    have hb := fun i hi => (ownsRow_block h.1 (k := i) hi).2
    refine ⟨?_, fun i hi => hF i (hb i hi) (h.2 i hi)⟩
    refine ⟨h.1.1, ?_⟩
    rcases h.1.2 with h2 | ⟨g, cap, cur, hv, hbs, hg, hr⟩
    · exact Or.inl h2
    · refine Or.inr ⟨g, cap, cur, hv, hbs, ?_, hr⟩
      have := hb g (by rw [hv]; rfl)
      rw [hc.block g this (hX g this (h.2 g (by rw [hv]; rfl)))]
      exact hg

/-- A map that is owned. -/
def mapC (P : Program) {κ : Type} (Y : KeyT κ) (k e : TypeId) (v : Value) (n : Nat) (f : κ → Int) : Ch where
  ok w F := MapOf P Y k e w v n f ∧ ∀ i, v = .map (some i) → F i
  keep h hc hX hF := ⟨h.1.chg hc fun i hi => hX i (h.1.lt hi) (h.2 i hi), fun i hi => hF i (h.1.lt hi) (h.2 i hi)⟩

/-- Rows that are owned, one for each; they need not be unlike. -/
def rowsC (e : TypeId) (size : Nat) (vs : List Value) (xss : List (List Value)) : Ch where
  ok w F := vs.length = xss.length ∧ ∀ (i : Nat) v xs, vs[i]? = some v → xss[i]? = some xs → ∃ a n c, v = .slice a n c ∧ (rowC e size a n c xs).ok w F
  keep h hc hX hF := ⟨h.1, fun i v xs h1 h2 => by obtain ⟨a, n, c, hv, hr⟩ := h.2 i v xs h1 h2; exact ⟨a, n, c, hv, (rowC e size a n c xs).keep hr hc hX hF⟩⟩

/-- What lies in a block's cells. -/
def boxAt (w : World) (b : Nat) : Nat → List Value → Prop
  | _, [] => True
  | j, v :: r => w.cell? ⟨b, j, none⟩ = some v ∧ boxAt w b (j + 1) r

theorem boxAt_of {w : World} {b : Nat} : ∀ {cs : List Value} {j : Nat}, (∀ i u, cs[i]? = some u → w.cell? ⟨b, j + i, none⟩ = some u) → boxAt w b j cs
  | [], _, _ => trivial
  | v :: r, j, h => ⟨h 0 v rfl, boxAt_of (cs := r) (j := j + 1) fun i u hi => by rw [show j + 1 + i = j + (i + 1) by omega]; exact h (i + 1) u (by simpa using hi)⟩

section
variable {G : Nat → Prop} {W w w' : World} {L L' : List Ch}

theorem box_of {b : Nat} {t : TypeId} {cs : List Value} {F : Nat → Prop} (h : (boxC b t cs).ok w F) : boxAt w b 0 cs ∧ (∀ j, w.frozen? ⟨b, j, none⟩ = false) ∧ b < w.heap.size := by
  refine ⟨boxAt_of fun i u hi => ?_, fun j => ?_, (Array.getElem?_eq_some_iff.1 h.2).1⟩
  · simp only [World.cell?, h.2, Nat.zero_add]
    simpa using hi
  · simp [World.frozen?, h.2]

theorem St.box (h : St G W w L) (k : Nat) {b : Nat} {t : TypeId} {cs : List Value} (hk : L[k]? = some (boxC b t cs)) : boxAt w b 0 cs ∧ (∀ j, w.frozen? ⟨b, j, none⟩ = false) ∧ b < w.heap.size := by
  obtain ⟨F, ho, _⟩ := h.get hk
  exact box_of ho

theorem chg_setCell (w : World) (p : Addr) (u : Value) : Chg (· = p.block) w (w.setCell p u) := (Chg.refl (fun x => x = p.block) w).setCell (p := p) (Or.inl rfl) u

theorem St.set (h : St G W w L) (k : Nat) {b : Nat} {t : TypeId} {cs : List Value} (hk : L[k]? = some (boxC b t cs)) (j : Nat) (u : Value) : St G W (w.setCell ⟨b, j, none⟩ u) (L.set k (boxC b t (cs.set j u))) := by
  obtain ⟨F, ho, _, hs⟩ := h.opn hk
  refine hs _ _ ((chg_setCell _ _ _).mono fun i _ e => by rw [e]; exact ho.1) ⟨Or.inl ho.1, ?_⟩
  rw [heap_setCell_same w b j cs.toArray t u ho.2, List.setIfInBounds_toArray]

theorem St.alloc (h : St G W w L) (cs : Array Value) (t : TypeId) : St G W (w.alloc (.cells cs t)) (L ++ [boxC w.heap.size t cs.toList]) := by
  refine h.seq ⟨(Chg.refl _ _).alloc _, fun i => if i = w.heap.size then 1 else 0, fun i hi => ?_, fun k d hk => ?_⟩
  · by_cases e : i = w.heap.size
    · subst e; exact ⟨fun h => absurd h (Nat.lt_irrefl _), by simp⟩
    · dsimp only at hi; rw [if_neg e] at hi; exact absurd rfl hi
  · match k, hk with
    | 0, hk => injection hk with hk; subst hk; exact ⟨by simp, by simpa using World.alloc_heap_new w _⟩
    | k + 1, hk => simp at hk

theorem St.map (h : St G W w L) (P : Program) {κ : Type} (Y : KeyT κ) (k e : TypeId) : St G W (w.alloc (.map #[] 0)) (L ++ [mapC P Y k e (.map (some w.heap.size)) 0 (fun _ => 0)]) := by
  refine h.seq ⟨(Chg.refl _ _).alloc _, fun i => if i = w.heap.size then 1 else 0, fun i hi => ?_, fun k d hk => ?_⟩
  · by_cases e : i = w.heap.size
    · subst e; exact ⟨fun h => absurd h (Nat.lt_irrefl _), by simp⟩
    · dsimp only at hi; rw [if_neg e] at hi; exact absurd rfl hi
  · match k, hk with
    | 0, hk => injection hk with hk; subst hk; exact ⟨MapOf.made _ _ _ _ _, fun i hi => by injection hi with hi; injection hi with hi; simp [hi]⟩
    | k + 1, hk => simp at hk

/-- A row that is made of so many values. -/
theorem St.lit (h : St G W w L) (e : TypeId) (size n : Nat) (cs : Array Value) (hn : n ≤ maxLen) (hs : cs.size = n * size) : St G W (w.alloc (.cells cs e)) (L ++ [rowC e size (some ⟨w.heap.size, 0, none⟩) n n cs.toList]) := by
  refine h.seq ⟨(Chg.refl _ _).alloc _, fun i => if i = w.heap.size then 1 else 0, fun i hi => ?_, fun k d hk => ?_⟩
  · by_cases e : i = w.heap.size
    · subst e; exact ⟨fun h => absurd h (Nat.lt_irrefl _), by simp⟩
    · dsimp only at hi; rw [if_neg e] at hi; exact absurd rfl hi
  · match k, hk with
    | 0, hk => injection hk with hk; subst hk; exact ⟨World.ownsRow_lit w cs n (Nat.zero_le _) hn hs, fun i hi => by injection hi with hi; simp [← hi]⟩
    | k + 1, hk => simp at hk

theorem rowC_nil (w : World) (e : TypeId) (size : Nat) (F : Nat → Prop) : (rowC e size none 0 0 []).ok w F := ⟨World.ownsRow_nil _ _ _ _, fun i hi => by cases hi⟩
theorem St.nilRow (h : St G W w L) (e : TypeId) (size : Nat) : St G W w (L ++ [rowC e size none 0 0 []]) := h.push (rowC_nil _ _ _ _)

/-- A row in new blocks. -/
theorem St.ofRow {e : TypeId} {size : Nat} {a : Option Addr} {n c : Nat} {xs : List Value} (hr : w'.ownsRow w.heap.size e size (.slice a n c) n xs) (hc : Chg noB w w') : St noB w w' [rowC e size a n c xs] := by
  refine ⟨hc, fun i => if (Value.slice a n c).ownBlock = some i then 1 else 0, fun i hi => ?_, fun k d hk => ?_⟩
  · by_cases e : (Value.slice a n c).ownBlock = some i
    · have := ownsRow_block hr e
      exact ⟨fun h => by omega, this.2⟩
    · dsimp only at hi; rw [if_neg e] at hi; exact absurd rfl hi
  · match k, hk with
    | 0, hk =>
      injection hk with hk; subst hk
      refine ⟨⟨hr.1, ?_⟩, fun i hi => by dsimp only; rw [if_pos hi]⟩
      rcases hr.2 with h2 | ⟨g, cap, cur, hv, hb, hg, hrr⟩
      · exact Or.inl h2
      · exact Or.inr ⟨g, cap, cur, hv, Nat.zero_le _, hg, hrr⟩
    | k + 1, hk => simp at hk

/-- What is owned, at a place. -/
theorem row_at {e : TypeId} {size : Nat} {a : Option Addr} {n c : Nat} {xs : List Value} {F : Nat → Prop} (h : (rowC e size a n c xs).ok w F) {j : Nat} (hj : j < xs.length) :
    ∃ g, a = some ⟨g, 0, none⟩ ∧ w.cell? ⟨g, j, none⟩ = some xs[j] ∧ w.frozen? ⟨g, j, none⟩ = false ∧ F g ∧ g < w.heap.size := by
  rcases h.1.2 with ⟨h1, h2⟩ | ⟨g, cap, cur, hv, hb, hg, hn, hm, hs, ht⟩
  · have := h.1.1; rw [h2] at this; omega
  · injection hv with hv
    refine ⟨g, hv, ?_, ?_, h.2 g (by rw [hv]; rfl), (Array.getElem?_eq_some_iff.1 hg).1⟩
    · have h3 : cur.toList[j]? = some xs[j] := by
        have h4 : (cur.toList.take (n * size))[j]? = some xs[j] := by rw [ht]; exact List.getElem?_eq_getElem hj
        rw [List.getElem?_take] at h4
        split at h4
        · exact h4
        · cases h4
      simp [World.cell?, hg, ← h3]
    · simp [World.frozen?, hg]

theorem row_size {e : TypeId} {size : Nat} {a : Option Addr} {n c : Nat} {xs : List Value} {F : Nat → Prop} (h : (rowC e size a n c xs).ok w F) : xs.length = n * size ∧ n ≤ c ∧ c ≤ maxLen := by
  refine ⟨h.1.1, ?_⟩
  rcases h.1.2 with ⟨h1, h2⟩ | ⟨g, cap, cur, hv, hb, hg, hn, hm, hs, ht⟩
  · injection h1 with _ h1 h3; subst h2 h3; exact ⟨Nat.le_refl _, by simp [maxLen]⟩
  · injection hv with _ _ hv; subst hv; exact ⟨hn, hm⟩

theorem St.rowSize (h : St G W w L) (k : Nat) {e : TypeId} {size : Nat} {a : Option Addr} {n c : Nat} {xs : List Value} (hk : L[k]? = some (rowC e size a n c xs)) : xs.length = n * size ∧ n ≤ c ∧ c ≤ maxLen := by
  obtain ⟨F, ho, _⟩ := h.get hk
  exact row_size ho

theorem St.rowAt (h : St G W w L) (k : Nat) {e : TypeId} {size : Nat} {a : Option Addr} {n c : Nat} {xs : List Value} (hk : L[k]? = some (rowC e size a n c xs)) {j : Nat} (hj : j < xs.length) :
    ∃ g, a = some ⟨g, 0, none⟩ ∧ w.cell? ⟨g, j, none⟩ = some xs[j] ∧ w.frozen? ⟨g, j, none⟩ = false := by
  obtain ⟨F, ho, _⟩ := h.get hk
  obtain ⟨g, h1, h2, h3, _⟩ := row_at ho hj
  exact ⟨g, h1, h2, h3⟩

theorem St.setRow (h : St G W w L) (k : Nat) {e : TypeId} {size g n c : Nat} {xs : List Value} (hk : L[k]? = some (rowC e size (some ⟨g, 0, none⟩) n c xs)) (j : Nat) (u : Value) :
    St G W (w.setCell ⟨g, j, none⟩ u) (L.set k (rowC e size (some ⟨g, 0, none⟩) n c (xs.set j u))) := by
  obtain ⟨F, ho, _, hs⟩ := h.opn hk
  have hg := ho.2 g rfl
  refine hs _ _ ((chg_setCell _ _ _).mono fun i _ e => by rw [e]; exact hg) ⟨(ho.1.stored j u).1, fun i hi => Or.inl (ho.2 i hi)⟩

/-- The last elements are let go. -/
theorem St.popRow (h : St G W w L) (k : Nat) {e : TypeId} {size : Nat} {a : Option Addr} {n c : Nat} {xs last : List Value} (hk : L[k]? = some (rowC e size a (n + 1) c (xs ++ last))) (hx : xs.length = n * size) : St G W w (L.set k (rowC e size a n c xs)) := by
  refine h.turn hk fun F ho => ?_
  rcases ho.1.2 with ⟨h1, h2⟩ | ⟨g, cap, cur, hv, hb, hg, hn, hm, hs, ht⟩
  · omega
  · injection hv with hv
    subst hv
    exact ⟨ownsRow_pop hx ho.1, fun i hi => ho.2 i hi⟩

/-- A row more among those that are owned. -/
theorem rowsC_snoc {e : TypeId} {size : Nat} {a : Option Addr} {n c : Nat} {xs : List Value} {vs : List Value} {xss : List (List Value)} {F F' : Nat → Prop} (h : (rowC e size a n c xs).ok w F) (h' : (rowsC e size vs xss).ok w F') : (rowsC e size (vs ++ [.slice a n c]) (xss ++ [xs])).ok w (fun i => F i ∨ F' i) := by
  refine ⟨by simp [h'.1], fun i v ys h1 h2 => ?_⟩
  by_cases hi : i < vs.length
  · rw [List.getElem?_append_left hi] at h1
    rw [List.getElem?_append_left (by rw [← h'.1]; exact hi)] at h2
    obtain ⟨a', n', c', hv, hr⟩ := h'.2 i v ys h1 h2
    exact ⟨a', n', c', hv, hr.1, fun j hj => Or.inr (hr.2 j hj)⟩
  · have hil := (List.getElem?_eq_some_iff.1 h1).1
    simp at hil
    have hie : i = vs.length := by omega
    subst hie
    rw [List.getElem?_append_right (Nat.le_refl _)] at h1
    rw [h'.1, List.getElem?_append_right (Nat.le_refl _)] at h2
    simp at h1 h2
    subst h1 h2
    exact ⟨a, n, c, rfl, h.1, fun j hj => Or.inl (h.2 j hj)⟩

/-- append, of any number of elements. -/
theorem St.appendN {P : Program} {X : Pan} {K : Value → World → Prop} (h : St G W w L) (k : Nat) {t ty e : TypeId} {z : Value} {size bytes : Nat} {a0 : Option Addr} {n c : Nat} {xs : List Value} (hk : L[k]? = some (rowC e size a0 n c xs))
    (ht : P.underlying t = some (.slice e)) (hi : (P.info? e).map (fun i => (i.zero, i.size, i.bytes)) = some (some z, size, bytes)) (hzs : z.cells.size = size) (hsz : 0 < size)
    {a : Addr} {m c1 : Nat} {news : List Value} (hl : news.length = m * size) (hnews : ∀ j u, news[j]? = some u → w.cell? (a.add j) = some u) (h1 : ∀ u ∈ news, u.oneCell' = true)
    (h63 : n + m ≤ maxLen) (hbytes : (n + m) * bytes ≤ maxBytes)
    (hK : ∀ a' cap w', St G W w' (L.set k (rowC e size a' (n + m) cap (xs ++ news))) → (0 < m → ∃ g, a' = some ⟨g, 0, none⟩) → K (.slice a' (n + m) cap) w') :
    RES X ((Builtin.append_ #[t, t] ty #[.slice a0 n c, .slice (some a) m c1]).run P w) K := by
  obtain ⟨i, hi, hz, hs1, hb1⟩ : ∃ i, P.info? e = some i ∧ i.zero = some z ∧ i.size = size ∧ i.bytes = bytes := by
    cases hq : P.info? e with
    | none => rw [hq] at hi; cases hi
    | some i => rw [hq] at hi; simp at hi; exact ⟨i, rfl, hi.1, hi.2.1, hi.2.2⟩
  obtain ⟨F, ho, hF, hs⟩ := h.opn hk
  obtain ⟨v', w', hrun, hown', hgr, hnil, hb⟩ := run_append_own_at (P := P) w 0 t ty e i z size bytes ht hi hz hs1 hb1 hzs hsz _ n xs ho.1 a m c1 news hl hnews h1 h63 hbytes (Nat.zero_le _)
  rw [hrun, RES_ok]
  have hc : Chg F w w' := ⟨hgr.os, hgr.tape, hgr.output, hgr.size, fun j hj hF => hgr.block j hj fun e => hF (ho.2 j e.symm)⟩
  have hfin : ∀ a' cap, v' = .slice a' (n + m) cap → (0 < m → ∃ g, a' = some ⟨g, 0, none⟩) → K v' w' := by
    rintro a' cap rfl hm
    refine hK a' cap w' (hs w' _ hc ⟨hown', fun j hj => ?_⟩) hm
    rcases hb with hb | hb
    · exact Or.inl (ho.2 j (hb ▸ hj))
    · rw [hb] at hj; injection hj with hj
      have := (ownsRow_block hown' (k := j) (by rw [hb, hj])).2
      exact Or.inr ⟨by omega, this⟩
  rcases hown'.2 with ⟨h1, h2⟩ | ⟨g, cap, cur, h1, _⟩
  · exact hfin none 0 (by rw [h1, h2]) fun h => by omega
  · exact hfin _ cap h1 fun _ => ⟨g, rfl⟩

/-- append, of one element that was just laid down. -/
theorem St.append1 {P : Program} {X : Pan} {K : Value → World → Prop} (h : St G W w L) (k : Nat) {t ty e : TypeId} {z : Value} {size bytes : Nat} {a0 : Option Addr} {n c : Nat} {xs : List Value} (hk : L[k]? = some (rowC e size a0 n c xs))
    (ht : P.underlying t = some (.slice e)) (hi : (P.info? e).map (fun i => (i.zero, i.size, i.bytes)) = some (some z, size, bytes)) (hzs : z.cells.size = size) (hsz : 0 < size)
    {c1 : Nat} {news : List Value} (hl : news.length = size) (h1 : ∀ u ∈ news, u.oneCell' = true)
    (h63 : n + 1 ≤ maxLen) (hbytes : (n + 1) * bytes ≤ maxBytes)
    (hK : ∀ g cap w', St G W w' (L.set k (rowC e size (some ⟨g, 0, none⟩) (n + 1) cap (xs ++ news))) → K (.slice (some ⟨g, 0, none⟩) (n + 1) cap) w') :
    RES X ((Builtin.append_ #[t, t] ty #[.slice a0 n c, .slice (some ⟨w.heap.size, 0, none⟩) 1 c1]).run P (w.alloc (.cells news.toArray e))) K := by
  have hc1 : Chg noB w (w.alloc (.cells news.toArray e)) := (Chg.refl _ _).alloc _
  refine (h.old hc1).appendN k hk ht hi hzs hsz (by omega) (alloc_cells w news e rfl) h1 h63 hbytes fun a' cap w' h' hm => ?_
  obtain ⟨g, rfl⟩ := hm (by omega)
  exact hK g cap w' h'

theorem St.append1d {P : Program} {X : Pan} {K : Value → World → Prop} (h : St G W w L) (k : Nat) {t ty e : TypeId} {z : Value} {size bytes : Nat} {a0 : Option Addr} {n c : Nat} {xs : List Value} (hk : L[k]? = some (rowC e size a0 n c xs))
    (ht : P.underlying t = some (.slice e)) (hi : (P.info? e).map (fun i => (i.zero, i.size, i.bytes)) = some (some z, size, bytes)) (hzs : z.cells.size = size) (hsz : 0 < size)
    {c1 : Nat} {news : List Value} (hl : news.length = size) (h1 : ∀ u ∈ news, u.oneCell' = true)
    (h63 : n + 1 ≤ maxLen) (hbytes : (n + 1) * bytes ≤ maxBytes)
    (hK : ∀ g cap w', St G W w' (L.set k (rowC e size (some ⟨g, 0, none⟩) (n + 1) cap (xs ++ news))) → K (.slice (some ⟨g, 0, none⟩) (n + 1) cap) w') :
    RES X ((Builtin.append_ #[t, t] ty #[.slice a0 n c, .slice (some ⟨w.heap.size, 0, none⟩) 1 c1]).run P (w.alloc (.cells news.toArray e)).drew) K := by
  have hc1 : Chg noB w (w.alloc (.cells news.toArray e)).drew := ((Chg.refl _ _).alloc _).drew
  refine (h.old hc1).appendN k hk ht hi hzs hsz (by omega) (fun j u hj => (alloc_cells w news e rfl j u hj)) h1 h63 hbytes fun a' cap w' h' hm => ?_
  obtain ⟨g, rfl⟩ := hm (by omega)
  exact hK g cap w' h'

open Classical in
/-- A map's entry is set. -/
theorem St.mapSet {P : Program} {κ : Type} {Y : KeyT κ} {t kt e : TypeId} (M : MapTy P Y t kt e) (h : St G W w L) (k : Nat) {b n : Nat} {f : κ → Int} (hk : L[k]? = some (mapC P Y kt e (.map (some b)) n f)) (a : κ) (ha : Y.good a) (hn : n < maxLen) {x : Int} (hx : inI64 x) (hx0 : x ≠ 0) :
    ∃ w', (Instr.mapUpdate t (.map (some b)) (Y.val a) (.int .i64 x)).run P w = .ok () w' ∧ St G W w' (L.set k (mapC P Y kt e (.map (some b)) (if f a = 0 then n + 1 else n) (fun c => if c = a then x else f c))) := by
  obtain ⟨F, ho, hF, hs⟩ := h.opn hk
  obtain ⟨w', hrun, hm, hg⟩ := ho.1.update M a ha hn hx hx0
  exact ⟨w', hrun, hs w' _ ⟨hg.os, hg.tape, hg.output, hg.size, fun j hj hF => hg.block j hj fun e => hF (ho.2 j (by injection e with e; rw [e]))⟩ ⟨hm, fun i hi => Or.inl (ho.2 i hi)⟩⟩

theorem St.mapPut {P : Program} {κ : Type} {Y : KeyT κ} {t kt e : TypeId} (M : MapTy P Y t kt e) (h : St G W w L) (k : Nat) {b n : Nat} {f : κ → Int} (hk : L[k]? = some (mapC P Y kt e (.map (some b)) n f)) (a : κ) (ha : Y.good a) (hn : n < maxLen) {x : Int} (hx : inI64 x) (hx0 : x ≠ 0)
    (n' : Nat) (f' : κ → Int) (h1 : f a = 0 → n' = n + 1) (h2 : f a ≠ 0 → n' = n) (h3 : f' a = x) (h4 : ∀ c, c ≠ a → f' c = f c) :
    ∃ w', (Instr.mapUpdate t (.map (some b)) (Y.val a) (.int .i64 x)).run P w = .ok () w' ∧ St G W w' (L.set k (mapC P Y kt e (.map (some b)) n' f')) := by
  obtain ⟨w', hrun, hst⟩ := h.mapSet M k hk a ha hn hx hx0
  refine ⟨w', hrun, ?_⟩
  have e1 : (if f a = 0 then n + 1 else n) = n' := by
    by_cases h0 : f a = 0
    · rw [if_pos h0, h1 h0]
    · rw [if_neg h0, h2 h0]
  have e2 : (fun c => @ite Int (c = a) (Classical.propDecidable _) x (f c)) = f' := by
    funext c
    by_cases hc : c = a
    · rw [if_pos hc, hc, h3]
    · rw [if_neg hc, h4 c hc]
  rw [← e1, ← e2]
  exact hst

theorem St.mapGet {P : Program} {κ : Type} {Y : KeyT κ} {t kt e : TypeId} (M : MapTy P Y t kt e) (h : St G W w L) (k : Nat) {v : Value} {n : Nat} {f : κ → Int} (hk : L[k]? = some (mapC P Y kt e v n f)) (a : κ) (ha : Y.good a) : (Instr.lookup t v (Y.val a) false).run P w = .ok (.int .i64 (f a)) w := by
  obtain ⟨F, ho, _⟩ := h.get hk
  exact ho.1.lookup M a ha
end

/-! ### Rows of structs -/
theorem flat_at {α : Type} {enc : α → List Value} {size : Nat} : ∀ {l : List α} {i : Nat} {x : α}, (∀ x ∈ l, (enc x).length = size) → l[i]? = some x → ∀ {j : Nat}, j < size → (l.flatMap enc)[i * size + j]? = (enc x)[j]?
  | [], _, _, _, h, _, _ => by simp at h
  | y :: l, 0, x, hs, h, j, hj => by
    simp at h; subst h
    rw [List.flatMap_cons, Nat.zero_mul, Nat.zero_add, List.getElem?_append_left (by rw [hs y (by simp)]; exact hj)]
  | y :: l, i + 1, x, hs, h, j, hj => by
    rw [List.flatMap_cons, List.getElem?_append_right (by rw [hs y (by simp), Nat.succ_mul]; omega), hs y (by simp), Nat.succ_mul, show i * size + size + j - size = i * size + j by omega]
    exact flat_at (fun z hz => hs z (by simp [hz])) (by simpa using h) hj
/-- An element of a row of structs. -/
theorem row_elem {α : Type} {enc : α → List Value} {w : World} {e : TypeId} {size : Nat} {a : Option Addr} {n c : Nat} {l : List α} {F : Nat → Prop} (h : (rowC e size a n c (l.flatMap enc)).ok w F) (hsz : ∀ x ∈ l, (enc x).length = size) (hpos : 0 < size) {i : Nat} {x : α} (hi : l[i]? = some x) :
    ∃ g, a = some ⟨g, 0, none⟩ ∧ (∀ j u, (enc x)[j]? = some u → w.cell? ⟨g, i * size + j, none⟩ = some u) ∧ (∀ j, w.frozen? ⟨g, j, none⟩ = false) ∧ F g ∧ g < w.heap.size := by
  have hlt : ∀ j, j < size → i * size + j < (l.flatMap enc).length := fun j hj => by
    have h1 := flat_at hsz hi hj
    have h2 : (enc x)[j]? = some ((enc x)[j]'(by rw [hsz x (List.mem_of_getElem? hi)]; exact hj)) := List.getElem?_eq_getElem _
    rw [h2] at h1
    exact (List.getElem?_eq_some_iff.1 h1).1
  obtain ⟨g, e1, _, _, hF, hg⟩ := row_at h (hlt 0 hpos)
  subst e1
  refine ⟨g, rfl, fun j u hj => ?_, fun j => ?_, hF, hg⟩
  · have hjl : j < size := by have := (List.getElem?_eq_some_iff.1 hj).1; rwa [hsz x (List.mem_of_getElem? hi)] at this
    obtain ⟨g', e2, hc, _⟩ := row_at h (hlt j hjl)
    injection e2 with e2; injection e2 with e2; subst e2
    rw [hc, ← List.getElem?_eq_getElem (hlt j hjl), flat_at hsz hi hjl]
    exact hj
  · rcases h.1.2 with ⟨h1, h2⟩ | ⟨g', cap, cur, hv, hb, hg', hn, hm, hs, ht⟩
    · cases h1
    · injection hv with hv; injection hv with hv; injection hv with hv; subst hv
      simp [World.frozen?, hg']

/-! ### A struct's cells, laid down -/
theorem fold2 (a b c d : Value) : Array.foldl (fun (cs : Array Value) (x : Value × Nat) => cs.setIfInBounds x.snd x.fst) #[a, b] (Value.agg #[c, d]).cells.zipIdx 0 2 = #[c, d] := rfl
theorem fold3 (a b c d e f : Value) : Array.foldl (fun (cs : Array Value) (x : Value × Nat) => cs.setIfInBounds x.snd x.fst) #[a, b, c] (Value.agg #[d, e, f]).cells.zipIdx 0 3 = #[d, e, f] := rfl
theorem fold4 (a b c d e f g h : Value) : Array.foldl (fun (cs : Array Value) (x : Value × Nat) => cs.setIfInBounds x.snd x.fst) #[a, b, c, d] (Value.agg #[e, f, g, h]).cells.zipIdx 0 4 = #[e, f, g, h] := rfl
theorem fold1 (A : Array Value) (v : Value) : Array.foldl (fun (cs : Array Value) (x : Value × Nat) => cs.setIfInBounds x.snd x.fst) A #[v].zipIdx 0 1 = A.setIfInBounds 0 v := rfl
theorem fold1k (A : Array Value) (k : Nat) (v : Value) : Array.foldl (fun (cs : Array Value) (x : Value × Nat) => cs.setIfInBounds (k + x.snd) x.fst) A #[v].zipIdx 0 1 = A.setIfInBounds k v := rfl
section
variable (a : Option Addr) (n c : Nat) (k : IntKind) (x : Int) (s : ByteArray) (b : Bool) (m : Option Nat)
theorem cells_slice : (Value.slice a n c).cells = #[.slice a n c] := rfl
theorem cells_int : (Value.int k x).cells = #[.int k x] := rfl
theorem cells_string : (Value.string s).cells = #[.string s] := rfl
theorem cells_bool : (Value.bool b).cells = #[.bool b] := rfl
theorem cells_map : (Value.map m).cells = #[.map m] := rfl
theorem cells_pointer : (Value.pointer a).cells = #[.pointer a] := rfl
theorem fold1_string (z : Value) : Array.foldl (fun (cs : Array Value) (x : Value × Nat) => cs.setIfInBounds x.snd x.fst) #[z] (Value.string s).cells.zipIdx 0 1 = #[(Value.string s)] := rfl
theorem fold1_int (z : Value) : Array.foldl (fun (cs : Array Value) (x : Value × Nat) => cs.setIfInBounds x.snd x.fst) #[z] (Value.int k x).cells.zipIdx 0 1 = #[(Value.int k x)] := rfl
theorem fold1_slice (z : Value) : Array.foldl (fun (cs : Array Value) (x : Value × Nat) => cs.setIfInBounds x.snd x.fst) #[z] (Value.slice a n c).cells.zipIdx 0 1 = #[(Value.slice a n c)] := rfl
theorem fold1_bool (z : Value) : Array.foldl (fun (cs : Array Value) (x : Value × Nat) => cs.setIfInBounds x.snd x.fst) #[z] (Value.bool b).cells.zipIdx 0 1 = #[(Value.bool b)] := rfl
end
attribute [go_sem] fold1_string fold1_int fold1_slice fold1_bool
attribute [go_sem] fold1 fold1k cells_slice cells_int cells_string cells_bool cells_map cells_pointer
attribute [go_sem] fold2 fold3 fold4
end Go.Px
