/-
  From a reading to the way in which data lie.
-/
import Derived.Test.YtmhebgebfjnfjaaPxRow
import Derived.SliceStrings
namespace Go.Px
open Go.ChangeShapes Go.WideShapes Go.ChangeAt Go.RowKit

/-- What is read as a type lies so. -/
def Opens {α : Type} (P : Program) (t : TypeId) (r : Rep α) : Prop :=
  P.cellsOf t = r.size ∧ P.bytesOf t = r.bytes ∧ ∀ {H : Type} (enc : TypeId × Value → H) (W : World) (base : Nat) (sp : Nat → Bool) (held : Bool) (fuel : Nat) (cs : List Value) (x : DataW H × List MemPlace),
    DataW.trod enc P W base sp held fuel t cs = some x → ∃ a, r.ok W W.heap.size cs a ∧ ((x.1.weights P t).all (· ≤ reachBytes) = true → r.fit a)

section
variable {P : Program} {t : TypeId}
theorem opens_int (ht : P.underlying t = some (.int .i64)) (hc : P.cellsOf t = 1) (hb : P.bytesOf t = 8) : Opens P t rInt := by
  refine ⟨hc, hb, fun enc W base sp held fuel cs x h => ?_⟩
  obtain ⟨n, rfl, _, hw⟩ := DataW.trod_int ht h
  refine ⟨n, ⟨rfl, ?_⟩, fun _ => trivial⟩
  simp [Lit.wf] at hw
  unfold inI64
  have hm : IntKind.i64.min = -9223372036854775808 := by decide
  rw [hm] at hw
  exact hw
theorem opens_bool (ht : P.underlying t = some .bool) (hc : P.cellsOf t = 1) (hb : P.bytesOf t = 1) : Opens P t rBool := by
  refine ⟨hc, hb, fun enc W base sp held fuel cs x h => ?_⟩
  obtain ⟨b, rfl, _⟩ := DataW.trod_bool ht h
  exact ⟨b, rfl, fun _ => trivial⟩
theorem opens_str (ht : P.underlying t = some .string) (hc : P.cellsOf t = 1) (hb : P.bytesOf t = 16) : Opens P t rStr := by
  refine ⟨hc, hb, fun enc W base sp held fuel cs x h => ?_⟩
  obtain ⟨s, rfl, rfl, hs⟩ := DataW.trod_string ht h
  refine ⟨s, ⟨rfl, hs⟩, fun hw => ?_⟩
  have : s.size ≤ reachBytes := by simpa [DataW.weights] using hw
  exact this
theorem weights_mem {P : Program} {e : TypeId} {H : Type} : ∀ {l : List (DataW H)} {d : DataW H}, (DataW.weightsAll P e l).all (· ≤ reachBytes) = true → d ∈ l → (d.weights P e).all (· ≤ reachBytes) = true
  | [], _, _, h => by cases h
  | x :: l, d, hw, h => by
    simp only [DataW.weightsAll, List.all_append, Bool.and_eq_true] at hw
    rcases List.mem_cons.1 h with rfl | h
    · exact hw.1
    · exact weights_mem hw.2 h
theorem opens_slice {α : Type} {r : Rep α} {e : TypeId} (ht : P.underlying t = some (.slice e)) (hc : P.cellsOf t = 1) (hb : P.bytesOf t = 24) (hpos : 0 < r.size) (he : Opens P e r) : Opens P t (rSlice r) := by
  refine ⟨hc, hb, fun enc W base sp held fuel cs x h => ?_⟩
  rcases DataW.trod_slice ht h with ⟨rfl, rfl⟩ | ⟨a, len, cap, elems, rest, n, _, rfl, rfl, _, hl, hm, hlen, hel, _, _⟩
  · exact ⟨[], ⟨none, 0, rfl, by simp, by simp [maxLen], trivial, fun h => by simp at h⟩, fun _ => ⟨by simp, by simp⟩⟩
  · have each : ∀ i, i < len → ∃ y, (∀ z, elems[i]? = some z → (z.1.weights P e).all (· ≤ reachBytes) = true → r.fit y) ∧ ∃ ys, r.ok W W.heap.size ys y ∧ ∀ j u, ys[j]? = some u → W.cell? (a.add (i * r.size + j)) = some u := by
      intro i hi
      have h1 := hel i hi
      rw [List.getElem?_eq_getElem (by omega), Option.bind_eq_some_iff] at h1
      obtain ⟨cs', hcs, hy⟩ := h1
      obtain ⟨y, hy, hfit⟩ := he.2.2 enc W base sp held n cs' _ hy
      obtain ⟨_, hlen', hcell⟩ := World.cells?_some hcs
      refine ⟨y, fun z hz hw => hfit (by rw [List.getElem?_eq_getElem (by omega)] at hz; cases hz; exact hw), cs', hy, fun j u hj => ?_⟩
      have hjl := (List.getElem?_eq_some_iff.1 hj).1
      have h2 := hcell j (by omega)
      rw [hj, he.1] at h2
      rw [← h2]
      congr 1
      unfold Addr.add
      by_cases h0 : i * r.size = 0
      · rw [h0]; simp
      · by_cases hj0 : j = 0
        · subst hj0; simp [h0]
        ·           simp [h0, hj0, Nat.add_assoc]
    have mk : ∀ n, n ≤ len → ∃ l : List α, l.length = n ∧ ∀ i y, l[i]? = some y → (∀ z, elems[i]? = some z → (z.1.weights P e).all (· ≤ reachBytes) = true → r.fit y) ∧ ∃ ys, r.ok W W.heap.size ys y ∧ ∀ j u, ys[j]? = some u → W.cell? (a.add (i * r.size + j)) = some u := by
      intro n
      induction n with
      | zero => exact fun _ => ⟨[], rfl, fun i y h => by simp at h⟩
      | succ n ih =>
        intro hn
        obtain ⟨l, hll, hl'⟩ := ih (by omega)
        obtain ⟨y, hy⟩ := each n (by omega)
        refine ⟨l ++ [y], by simp [hll], fun i z hz => ?_⟩
        by_cases hi : i < l.length
        · rw [List.getElem?_append_left hi] at hz; exact hl' i z hz
        · rw [List.getElem?_append_right (by omega)] at hz
          have hi0 : i - l.length = 0 := by
            have := (List.getElem?_eq_some_iff.1 hz).1
            simp at this; omega
          rw [hi0] at hz
          simp at hz
          subst hz
          have : i = n := by omega
          subst this
          exact hy
    obtain ⟨l, hll, hl'⟩ := mk len (Nat.le_refl _)
    refine ⟨l, ⟨some a, cap, by rw [hll], by omega, hm, trivial, fun hpos' => ?_⟩, fun hw => ?_⟩
    case refine_2 =>
      simp only [DataW.weights, ht, List.all_cons, List.all_append, Bool.and_eq_true, decide_eq_true_eq, List.length_map] at hw
      refine ⟨?_, fun x hx => ?_⟩
      · have h1 := hw.1
        rw [he.2.1] at h1
        refine Nat.le_trans (Nat.mul_le_mul_right _ ?_) h1
        omega
      · obtain ⟨i, hi⟩ := List.getElem?_of_mem hx
        have hil := (List.getElem?_eq_some_iff.1 hi).1
        refine (hl' i x hi).1 elems[i] (List.getElem?_eq_getElem (by omega)) ?_
        exact weights_mem hw.2.1 (List.mem_map_of_mem (List.getElem_mem _))
    have h0 := hl' 0 l[0] (List.getElem?_eq_getElem hpos')
    obtain ⟨_, ys, hok, hcell⟩ := h0
    have hylen := r.len hok
    have hc0 := hcell 0 ys[0] (List.getElem?_eq_getElem (by omega))
    have ha : a = ⟨a.block, a.off, none⟩ := by
      simp [Addr.add] at hc0
      unfold World.cell? at hc0
      split at hc0
      · split at hc0
        · cases hc0
        · rename_i hsp
          cases a with
          | mk b o s => cases s with
            | none => rfl
            | some s => simp at hsp
      · cases hc0
    have hblk := World.block_lt_of_cell? W _ hc0
    refine ⟨a.block, a.off, by rw [← ha], ?_, fun i y hi => ?_⟩
    · rw [ha] at hblk
      simpa [Addr.add] using hblk
    · obtain ⟨_, ys, hok, hcell⟩ := hl' i y hi
      refine ⟨ys, hok, fun j u hj => ?_⟩
      have := hcell j u hj
      rw [ha, Addr.add_lit] at this
      exact this

/-- Fields, from a place on. -/
def OpensF {α : Type} (P : Program) (fs : List Field) (off : Nat) (r : Rep α) : Prop := ∀ (H : Type) (enc : TypeId × Value → H) (W : World) (base : Nat) (sp : Nat → Bool) (held : Bool) (n : Nat) (cs : List Value) (xs : List (DataW H × List MemPlace)),
  cs.length = off + r.size → xs.length = fs.length → (∀ (i : Nat) (f : Field), fs[i]? = some f → DataW.trod enc P W base sp held n f.type ((cs.drop f.offset).take (P.cellsOf f.type)) = xs[i]?) → ∃ a, r.ok W W.heap.size (cs.drop off) a ∧ ((DataW.weightsEach P (fs.map (·.type)) (xs.map (·.1))).all (· ≤ reachBytes) = true → r.fit a)

theorem opensF_one {α : Type} {r : Rep α} {f : Field} (hf : Opens P f.type r) : OpensF P [f] f.offset r := by
  intro H enc W base sp held n cs xs hl hxs h
  have h0 := h 0 f rfl
  rw [List.getElem?_eq_getElem (by rw [hxs]; simp)] at h0
  obtain ⟨a, ha, hfit⟩ := hf.2.2 enc W base sp held n _ _ h0
  rw [hf.1, List.take_of_length_le (by simp; omega)] at ha
  refine ⟨a, ha, fun hw => hfit ?_⟩
  cases xs with
  | nil => simp at hxs
  | cons y ys =>
    simp only [List.map_cons, DataW.weightsEach, List.all_append, Bool.and_eq_true] at hw
    exact hw.1

theorem opensF_cons {α β : Type} {r : Rep α} {s : Rep β} {f : Field} {fs : List Field} (hf : Opens P f.type r) (hfs : OpensF P fs (f.offset + r.size) s) : OpensF P (f :: fs) f.offset (r.prod s) := by
  intro H enc W base sp held n cs xs hl hxs h
  have hrs : (r.prod s).size = r.size + s.size := rfl
  have h0 := h 0 f rfl
  rw [List.getElem?_eq_getElem (by rw [hxs]; simp)] at h0
  obtain ⟨a, ha, hfit⟩ := hf.2.2 enc W base sp held n _ _ h0
  rw [hf.1] at ha
  obtain ⟨b, hb, hfit'⟩ := hfs H enc W base sp held n cs xs.tail (by omega) (by simp [hxs]) (fun i g hg => by
    have := h (i + 1) g (by simpa using hg)
    rw [this]; simp)
  refine ⟨(a, b), ⟨_, _, ?_, ha, hb⟩, fun hw => ?_⟩
  case refine_2 =>
    cases xs with
    | nil => simp at hxs
    | cons y ys =>
      simp only [List.map_cons, DataW.weightsEach, List.all_append, Bool.and_eq_true] at hw
      exact ⟨hfit hw.1, hfit' hw.2⟩
  rw [show cs.drop (f.offset + r.size) = (cs.drop f.offset).drop r.size by rw [List.drop_drop]]
  exact (List.take_append_drop _ _).symm

theorem opens_struct {α : Type} {r : Rep α} {fs : Array Field} (ht : P.underlying t = some (.struct fs)) (hc : P.cellsOf t = r.size) (hb : P.bytesOf t = r.bytes) (hfs : OpensF P fs.toList 0 r) : Opens P t r := by
  refine ⟨hc, hb, fun enc W base sp held fuel cs x h => ?_⟩
  obtain ⟨xs, n, _, rfl, hl, hxs, hf⟩ := DataW.trod_struct ht h
  obtain ⟨a, ha, hfit⟩ := hfs _ enc W base sp held n cs xs (by omega) (by simpa using hxs) (fun i f hi => hf i f (by simpa using hi))
  refine ⟨a, by simpa using ha, fun hw => hfit ?_⟩
  simpa [DataW.weights, ht] using hw

theorem str_at1 {w : World} {B : Nat} {v : Value} {s : ByteArray} (h : rStr.at1 w B v s) : v = .string s ∧ s.size ≤ maxLen := by
  obtain ⟨h1, h2⟩ := h
  injection h1 with h1
  exact ⟨h1, h2⟩
theorem int_at1 {w : World} {B : Nat} {v : Value} {x : Int} (h : rInt.at1 w B v x) : v = .int .i64 x ∧ inI64 x := by
  obtain ⟨h1, h2⟩ := h
  injection h1 with h1
  exact ⟨h1, h2⟩
/-- An argument of one cell. -/
theorem open_arg1 {α : Type} {r : Rep α} {H : Type} {enc : TypeId × Value → H} {W : World} {base : Nat} {sp : Nat → Bool} {held : Bool} {v : Value} {d : DataW H} {ps : List MemPlace} (ho : Opens P t r) (hv : v.cells = #[v]) (h : DataW.Trod enc P W base sp held t v d ps) :
    ∃ a, r.at1 W W.heap.size v a ∧ ((d.weights P t).all (· ≤ reachBytes) = true → r.fit a) := by
  obtain ⟨fuel, hf⟩ := h
  rw [hv] at hf
  exact ho.2.2 enc W base sp held fuel _ _ hf
/-- A struct's. -/
theorem open_argN {α : Type} {r : Rep α} {H : Type} {enc : TypeId × Value → H} {W : World} {base : Nat} {sp : Nat → Bool} {held : Bool} {v : Value} {d : DataW H} {ps : List MemPlace} {cs : Array Value} (ho : Opens P t r) (hv : v = .agg cs) (h : DataW.Trod enc P W base sp held t v d ps) :
    ∃ a, r.atN W W.heap.size v a ∧ ((d.weights P t).all (· ≤ reachBytes) = true → r.fit a) := by
  obtain ⟨fuel, hf⟩ := h
  subst hv
  obtain ⟨a, ha, hfit⟩ := ho.2.2 enc W base sp held fuel _ _ hf
  exact ⟨a, ⟨cs.toList, by simp, ha⟩, hfit⟩
end
end Go.Px
