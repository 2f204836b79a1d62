/-
  ScanSpread: letters, made.
-/
import Derived.Test.YtgjifldciinehaaDoorLw8
import Derived.Test.YtgjifldciinehaaDoorScSpec6
import Derived.Laws.BytesArg
namespace Go.Px.Scan
open Go.Px
def tblL : ByteArray := ⟨#[97, 98, 99, 120, 121, 122, 65, 66, 90, 95, 48, 49, 57]⟩
def letB (any : Bool) (i c : Nat) : Nat :=
  if any then (if 32 + c % 95 = 39 then 126 else 32 + c % 95) else if i = 0 ∧ bt tblL (c % 13) < 65 then 113 else bt tblL (c % 13)
def lettersN (any : Bool) (s : ByteArray) (n : Nat) : List Nat := (List.range n).map fun i => letB any i (bt s i)
theorem lettersN_len (any : Bool) (s : ByteArray) (n : Nat) : (lettersN any s n).length = n := by simp [lettersN]
theorem lettersN_succ (any : Bool) (s : ByteArray) (n : Nat) : lettersN any s (n + 1) = lettersN any s n ++ [letB any n (bt s n)] := by simp [lettersN, List.range_succ]
def ofNats (l : List Nat) : ByteArray := ⟨(l.map fun n => n.toUInt8).toArray⟩
theorem ofNats_size (l : List Nat) : (ofNats l).size = l.length := by simp [ofNats, ByteArray.size]
theorem ofNats_bt {l : List Nat} {i : Nat} (h : i < l.length) (h2 : l[i] < 256) : bt (ofNats l) i = l[i] := by
  rw [bt_list]
  simp only [ofNats, List.getD_eq_getElem?_getD, List.getElem?_map, List.getElem?_eq_getElem h, Option.map_some, Option.getD_some]
  simp [Nat.toUInt8, UInt8.toNat_ofNat]
  omega
def lettersS (any : Bool) (s : ByteArray) : ByteArray := if min s.size 16 = 0 then ⟨#[110]⟩ else ofNats (lettersN any s (min s.size 16))

theorem tbl_inner : ∀ k : Fin 13, innerN (bt tblL k.val) = true := by decide +kernel
theorem tbl_first : ∀ k : Fin 13, bt tblL k.val < 65 ∨ (letterN (bt tblL k.val) || decide (bt tblL k.val = 95)) = true := by decide +kernel

theorem letB_plain (i c : Nat) : plainN (letB true i c) = true := by
  unfold letB
  have := Nat.mod_lt c (show 0 < 95 by omega)
  rw [if_pos rfl]
  split <;> simp [plainN] <;> omega
theorem letB_inner (i c : Nat) : innerN (letB false i c) = true := by
  unfold letB
  rw [if_neg (by simp)]
  split
  · rfl
  · exact tbl_inner ⟨c % 13, Nat.mod_lt _ (by omega)⟩
theorem letB_first (c : Nat) : (letterN (letB false 0 c) || decide (letB false 0 c = 95)) = true := by
  unfold letB
  rw [if_neg (by simp)]
  split
  · rfl
  · rename_i h
    rcases tbl_first ⟨c % 13, Nat.mod_lt _ (by omega)⟩ with h1 | h1
    · exact absurd ⟨rfl, h1⟩ h
    · exact h1
theorem plain_lt {c : Nat} (h : plainN c = true) : c < 256 := by simp [plainN] at h; omega

theorem letters_at (any : Bool) (s : ByteArray) (n i : Nat) (h : i < n) : (lettersN any s n)[i]'(by rw [lettersN_len]; exact h) = letB any i (bt s i) := by simp [lettersN]

theorem letters_term (s : ByteArray) : TermP (lettersS true s) := by
  unfold lettersS
  split
  · refine ⟨by decide, by decide, fun i hi => ?_⟩
    have : i = 0 := by change i < 1 at hi; omega
    subst this; rfl
  · rename_i h
    refine ⟨by rw [ofNats_size, lettersN_len]; omega, by rw [ofNats_size, lettersN_len]; omega, fun i hi => ?_⟩
    rw [ofNats_size] at hi
    have hi' := hi
    rw [lettersN_len] at hi'
    have e := letters_at true s _ i hi'
    rw [ofNats_bt hi (by rw [e]; exact plain_lt (letB_plain _ _)), e]
    exact letB_plain _ _
theorem letters_name (s : ByteArray) : NameP (lettersS false s) := by
  unfold lettersS
  split
  · refine ⟨by decide, by decide, by decide, fun i hi => ?_⟩
    have : i = 0 := by change i < 1 at hi; omega
    subst this; rfl
  · rename_i h
    have key : ∀ i, i < min s.size 16 → bt (ofNats (lettersN false s (min s.size 16))) i = letB false i (bt s i) := fun i hi => by
      have e := letters_at false s _ i hi
      rw [ofNats_bt (by rw [lettersN_len]; exact hi) (by rw [e]; exact plain_lt (inner_plain (letB_inner _ _))), e]
    refine ⟨by rw [ofNats_size, lettersN_len]; omega, by rw [ofNats_size, lettersN_len]; omega, ?_, fun i hi => ?_⟩
    · rw [key 0 (by omega)]; exact letB_first _
    · rw [ofNats_size, lettersN_len] at hi
      rw [key i hi]; exact letB_inner _ _
end Go.Px.Scan

namespace Go.Proofs.YtgjifldciinehaaDoor
open Go.Px Go.Px.Scan Go.RowKit
set_option maxHeartbeats 1000000
set_option linter.unusedSimpArgs false

theorem info5 : (Tryd.prog.info? 5).map (fun i => (i.zero, i.size, i.bytes)) = some (some (.int .u8 0), 1, 1) := by kernel_rfl

def u8V (n : Nat) : Value := .int .u8 n

theorem own_cell {w : World} {base e size g n cap : Nat} {xs : List Value} (h : w.ownsRow base e size (.slice (some ⟨g, 0, none⟩) n cap) n xs) {i : Nat} {u : Value} (hi : xs[i]? = some u) : w.cell? ⟨g, i, none⟩ = some u := by
  rcases h.2 with ⟨h1, _⟩ | ⟨g', cap', cur, he, hb, hg, hnc, hm, hcs, ht⟩
  · cases h1
  · cases he
    rw [← ht, List.getElem?_take] at hi
    split at hi
    · simp only [World.cell?, hg]
      simpa using hi
    · cases hi

theorem u8_in (n : Nat) (h : n < 256) : IntKind.u8.wrap (n : Int) = (n : Int) := by
  simp [IntKind.wrap, IntKind.bits, IntKind.signed]
  omega

theorem letters_ct {s : ByteArray} (any : Bool) (hs : s.size ≤ maxLen) (w : World) : Ct Tryd.prog law03_letters.id #[.string s, .bool any] w fun v w' => v = .string (lettersS any s) ∧ Chg (fun _ => False) w w' := by
  refine law03_letters.ct fun R hR => ?_
  obtain ⟨i0, hi, hz0, hz1, hz2⟩ := info_parts info5
  unfold law03_letters.run law03_letters.b1 law03_letters.b4
  refine law03_letters.l6_intro _ _ _ _ _ _ (fun x y w1 => ∃ k : Nat, y = .int .i64 k ∧ k ≤ min s.size 16 ∧ w1.ownsRow w.heap.size 5 1 x k ((lettersN any s k).map u8V) ∧ Chg (fun _ => False) w w1) (fun _ y _ => 16 - iv y) ⟨0, rfl, Nat.zero_le _, World.ownsRow_nil _ _ _ _, Chg.refl _ _⟩ ?_
  rintro x _ w1 ⟨k, rfl, hk, ho, hc1⟩ C hC
  have hs1 := hc1.size
  have wk : IntKind.i64.wrap ((k : Int) + 1) = (k : Int) + 1 := IntWalk.i64_in _ (by omega)
  -- the end
  have fin : k = min s.size 16 → law03_letters.b3 R x w1 := by
    intro hke
    unfold law03_letters.b3
    rcases own_form ho with ⟨rfl, h0⟩ | ⟨g, cap, rfl, hg, hgl, hcap, hcm, _⟩
    · simp [go_sem]
      refine hR _ _ ⟨?_, hc1⟩
      unfold lettersS; rw [if_pos (by omega)]
    · simp [go_sem]
      refine SPL_intro (fun h => ?_) (fun h => ?_)
      · refine hR _ _ ⟨?_, hc1⟩
        simp at h
        unfold lettersS; rw [if_pos (by omega)]
      · simp at h
        rw [RUN_eq, run_convert_bytes_arg w1 66 5 Tryd.underlying66 Tryd.underlying5 g 0 k cap ((lettersN any s k).map Int.ofNat) (by rw [List.length_map, lettersN_len]) (fun i hik => by
          refine (own_cell ho (i := 0 + i) (u := u8V (letB any i (bt s i))) ?_).trans ?_
          · rw [Nat.zero_add, List.getElem?_map, List.getElem?_eq_getElem (by rw [lettersN_len]; exact hik), letters_at any s k i hik]; rfl
          · rw [List.getD_eq_getElem?_getD, List.getElem?_map, List.getElem?_eq_getElem (by rw [lettersN_len]; exact hik), letters_at any s k i hik]; rfl) 9 Tryd.underlying9, RES_ok]
        refine hR _ _ ⟨?_, hc1⟩
        unfold lettersS
        rw [if_neg (by omega), ← hke]
        congr 1
        unfold strOfNums ofNats
        rw [List.map_map]
        rfl
  -- one letter more
  have step : ∀ c : Nat, c < 256 → k < min s.size 16 → c = letB any k (bt s k) → law03_letters.b13 R C x (.int .i64 k) (.int .u8 c) w1 := by
    intro c hc hlt hce
    unfold law03_letters.b13
    generalize hap : Builtin.append_ = ap
    simp [go_sem]
    rw [← hap]
    clear hap ap
    have hc2 : Chg (fun _ => False) w1 (w1.alloc (.cells #[.int .u8 c] 5)) := (Chg.refl _ _).alloc _
    have ho2 := ownsRow_chg ho hc2 (fun _ _ => id)
    have hn : ∀ j u, ([u8V c] : List Value)[j]? = some u → (w1.alloc (.cells #[.int .u8 c] 5)).cell? ((⟨w1.heap.size, 0, none⟩ : Addr).add j) = some u := alloc_cells w1 [u8V c] 5 rfl
    have hs2 := hc2.size
    generalize w1.alloc (.cells #[.int .u8 c] 5) = w2 at hc2 ho2 hn hs2 ⊢
    refine append_own 66 66 5 Tryd.underlying66 hi hz0 hz1 hz2 rfl (by omega) ho2 rfl hn ?_ (by unfold maxLen; omega) (by unfold maxBytes; omega) (by omega) ?_
    · intro u hu
      simp [u8V] at hu
      subst hu; rfl
    intro g c3 w3 ho3 hg3 hgb
    have hc3 : Chg (fun i => w.heap.size ≤ i) w2 w3 := grown_chg hg3 fun k hk => (ownsRow_block ho2 hk).1
    unfold law03_letters.b9
    simp [go_sem, wk]
    refine hC _ _ _ ⟨k + 1, by simp, by omega, ?_, (hc1.trans hc2).trans' hc3 (fun i hi h => by omega)⟩ (by simp [iv]; omega)
    rw [lettersN_succ, List.map_append, List.map_cons, List.map_nil, ← hce]
    exact ho3
  unfold law03_letters.b19
  simp [go_sem]
  refine SPL_intro (fun h => ?_) (fun h => ?_)
  · have hlt : k < s.size := by simpa using h
    simp [go_sem]
    unfold law03_letters.b20
    refine SPL_intro (fun h2 => ?_) (fun h2 => ?_)
    · have h16 : k < 16 := by simp at h2; omega
      have hc := bt_lt s k
      unfold law03_letters.b11
      simp [go_sem, index_bt, hlt]
      have e95 : IntKind.u8.wrap (32 + ((bt s k : Nat) : Int).tmod 95) = ((32 + bt s k % 95 : Nat) : Int) := by
        have e1 : ((bt s k : Nat) : Int).tmod 95 = ((bt s k % 95 : Nat) : Int) := by rw [Int.ofNat_tmod]; rfl
        have hm := Nat.mod_lt (bt s k) (show 0 < 95 by omega)
        rw [e1]
        have : (32 : Int) + ((bt s k % 95 : Nat) : Int) = ((32 + bt s k % 95 : Nat) : Int) := by push_cast; rfl
        rw [this]
        exact u8_in _ (by omega)
      rw [e95]
      have h14 : ∀ c1 : Nat, c1 < 256 → (any = true → c1 = letB any k (bt s k)) → law03_letters.b14 R C (.string s) (.bool any) x (.int .i64 k) (.int .u8 c1) w1 := by
        intro c1 hc1 hce
        unfold law03_letters.b14
        cases any with
        | true =>
          simp [go_sem]
          unfold law03_letters.b15
          simp [go_sem]
          unfold law03_letters.b18
          exact step c1 hc1 (by omega) (hce rfl)
        | false =>
          simp [go_sem]
          unfold law03_letters.b15
          simp [go_sem]
          unfold law03_letters.b16
          obtain ⟨m, hm⟩ : ∃ m, m = bt s k % 13 := ⟨_, rfl⟩
          have hm13 : m < tblL.size := by rw [hm]; exact Nat.mod_lt _ (by decide)
          have e13 : (IntKind.i64.wrap ((bt s k : Nat) : Int)).tmod 13 = (m : Int) := by
            rw [IntWalk.i64_in _ (by omega), hm, Int.ofNat_tmod]; rfl
          have hx := index_bt (P := Tryd.prog) (w := w1) (k := .i64) Tryd.underlying9 hm13
          have htb := bt_lt tblL m
          have hfi : ∀ c2 : Nat, c2 < 256 → c2 = letB false k (bt s k) → law03_letters.b13 R C x (.int .i64 k) (.int .u8 c2) w1 := fun c2 h2 h3 => step c2 h2 (by omega) h3
          have hm13' : (m : Int) < 13 := by have h9 : m < 13 := hm13; omega
          have eb : ∀ h : m < ByteArray.size ⟨#[97, 98, 99, 120, 121, 122, 65, 66, 90, 95, 48, 49, 57]⟩, ((⟨#[97, 98, 99, 120, 121, 122, 65, 66, 90, 95, 48, 49, 57]⟩ : ByteArray)[m]'h).toNat = bt tblL m := fun h => by
            unfold bt; rw [dif_pos hm13]; rfl
          have hkc : (k : Int) = 0 ↔ k = 0 := by omega
          simp [go_sem, index_bt, hlt, e13, hm13', eb]
          have e17 : ∀ b : Bool, b = decide (k = 0 ∧ bt tblL m < 65) → law03_letters.b17 R C x (.int .i64 k) (.int .u8 (bt tblL m)) (.bool b) w1 := by
            intro b hb
            unfold law03_letters.b17
            cases b with
            | true =>
              simp [go_sem]
              refine hfi 113 (by omega) ?_
              unfold letB
              rw [if_neg (by simp), if_pos (by simpa [hm] using hb.symm)]
            | false =>
              simp [go_sem]
              refine hfi _ htb ?_
              unfold letB
              rw [if_neg (by simp), ← hm, if_neg (by simpa using hb.symm)]
          refine SPL_intro (fun h3 => ?_) (fun h3 => ?_)
          · have h3' : k = 0 := by simpa using h3
            simp [go_sem]
            exact e17 _ (by simp [h3']; omega)
          · have h3' : ¬ k = 0 := by simpa using h3
            exact e17 _ (by simp [h3'])
      have hm := Nat.mod_lt (bt s k) (show 0 < 95 by omega)
      refine SPL_intro (fun h3 => ?_) (fun h3 => ?_)
      · refine h14 126 (by omega) (fun ha => ?_)
        unfold letB; rw [if_pos ha, if_pos (by simp at h3; omega)]
      · refine h14 _ (by omega) (fun ha => ?_)
        unfold letB; rw [if_pos ha, if_neg (by simp at h3; omega)]
    · exact fin (by simp at h2; omega)
  · unfold law03_letters.b20
    simp [go_sem]
    exact fin (by simp at h; omega)
end Go.Proofs.YtgjifldciinehaaDoor
