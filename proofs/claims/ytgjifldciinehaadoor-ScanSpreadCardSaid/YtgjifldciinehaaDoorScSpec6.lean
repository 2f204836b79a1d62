/-
  Words with blanks between them.
-/
import Derived.Test.YtgjifldciinehaaDoorScSpec5
namespace Go.Px.Scan
open Go.Px

theorem run_shift (p : Nat → Bool) {s t : ByteArray} (d : Nat) : ∀ (n i : Nat), (∀ j, i ≤ j → j < runS p s i n → bt t (d + j) = bt s j) → d + runS p s i n ≤ t.size →
    (d + runS p s i n < t.size → (runS p s i n < s.size ∧ bt t (d + runS p s i n) = bt s (runS p s i n)) ∨ p (bt t (d + runS p s i n)) = false ∨ runS p s i n = i + n) → runS p t (d + i) n = d + runS p s i n
  | 0, i, _, _, _ => rfl
  | n + 1, i, ha, h1, h2 => by
    by_cases hc : (i < s.size && p (bt s i)) = true
    · have e : runS p s i (n + 1) = runS p s (i + 1) n := by conv => lhs; unfold runS; rw [if_pos hc]
      rw [e] at ha h1 h2 ⊢
      have hg := run_ge p s n (i + 1)
      have hti := ha i (by omega) (by omega)
      conv => lhs; unfold runS
      simp at hc
      rw [if_pos (by simp [hti, hc.2]; omega)]
      exact run_shift p d n (i + 1) (fun j hj => ha j (by omega)) h1 (fun h => by
        rcases h2 h with h3 | h3 | h3
        · exact Or.inl h3
        · exact Or.inr (Or.inl h3)
        · exact Or.inr (Or.inr (by omega)))
    · have e : runS p s i (n + 1) = i := by conv => lhs; unfold runS; rw [if_neg hc]
      rw [e] at ha h1 h2 ⊢
      unfold runS
      rw [if_neg]
      intro hn
      simp at hn hc
      rcases h2 hn.1 with h3 | h3 | h3
      · rw [h3.2] at hn; exact absurd hn.2 (by simp [hc h3.1])
      · rw [h3] at hn; simp at hn
      · omega

theorem extract_shift {s t : ByteArray} (d : Nat) {a e : Nat} (hs : e ≤ s.size) (ht : d + e ≤ t.size) (h : ∀ j, a ≤ j → j < e → bt t (d + j) = bt s j) : t.extract (d + a) (d + e) = s.extract a e := by
  apply bs_ext
  have h1 := Lib.extract_toList t (d + a) (d + e)
  have h2 := Lib.extract_toList s a e
  rw [ByteArray.toList_eq] at h1 h2
  rw [h1, h2, show d + e - (d + a) = e - a by omega]
  apply List.ext_getElem?
  intro i
  simp only [List.getElem?_take, List.getElem?_drop]
  split
  · rename_i hi
    have hj := h (a + i) (by omega) (by omega)
    obtain ⟨c, hc, ec⟩ := list_bt (s := s) (i := a + i) (by omega)
    obtain ⟨x, hx, ex⟩ := list_bt (s := t) (i := d + a + i) (by omega)
    rw [hc, hx]
    congr 1
    apply UInt8.toNat_inj.1
    rw [show d + a + i = d + (a + i) by omega] at ex
    omega
  · rfl

theorem ord_shift {s t : ByteArray} (d : Nat) (a k : Nat) : k ≤ s.size → (∀ j, a ≤ j → j < (ordS s a k).1 → bt t (d + j) = bt s j) → d + (ordS s a k).1 ≤ t.size → a ≤ k → (ordS s a k).2 = true →
    (d + (ordS s a k).1 < t.size → ((ordS s a k).1 < s.size ∧ bt t (d + (ordS s a k).1) = bt s (ordS s a k).1) ∨ letterN (bt t (d + (ordS s a k).1)) = false) → ordS t (d + a) (d + k) = (d + (ordS s a k).1, true) := by
  induction k using ordS.induct s a with
  | case1 k h h1 ih =>
    intro hk ha hle hak ho h2
    have e : ordS s a k = ordS s a (k + 1) := by conv => lhs; unfold ordS; rw [if_pos h, if_pos h1]
    rw [e] at ha hle h2 ho ⊢
    have hg := ord_ge s a (k + 1)
    conv => lhs; unfold ordS
    rw [if_pos ⟨by omega, by rw [ha k hak (by omega)]; exact h.2⟩, if_pos (by
      rw [show d + k + 1 = d + (k + 1) by omega, extract_shift (s := s) d (by omega) (by omega) (fun j hj hj' => ha j hj (by omega))]; exact h1)]
    exact ih (by omega) ha hle (by omega) ho h2
  | case2 k h h1 =>
    intro hk ha hle hak ho h2
    have e : ordS s a k = (k, false) := by conv => lhs; unfold ordS; rw [if_pos h, if_neg h1]
    rw [e] at ho; cases ho
  | case3 k h =>
    intro hk ha hle hak ho h2
    have e : ordS s a k = (k, true) := by conv => lhs; unfold ordS; rw [if_neg h]
    rw [e] at ha hle h2 ⊢
    unfold ordS
    rw [if_neg]
    rintro ⟨h4, h5⟩
    rcases h2 h4 with h6 | h6
    · simp at h6 h5
      exact h ⟨h6.1, by rw [← h6.2]; exact h5⟩
    · rw [h6] at h5; cases h5

theorem word_shift {s t : ByteArray} (d : Nat) {j kd a b n : Nat} (hj : j < s.size) (h : oneS s j = .word kd a b n) (hA : ∀ i, j ≤ i → i < n → bt t (d + i) = bt s i) (hn : d + n ≤ t.size)
    (hE : d + n < t.size → (n < s.size ∧ bt t (d + n) = bt s n) ∨ innerN (bt t (d + n)) = false) : oneS t (d + j) = .word kd (d + a) (d + b) (d + n) := by
  have hw := one_word hj h
  have h0 := hA j (Nat.le_refl _) hw.1
  unfold oneS at h ⊢
  rw [h0]
  split at h
  · rename_i h1; rw [if_pos h1]; injection h with e1 e2 e3 e4; rw [← e1, ← e2, ← e3, ← e4]; rfl
  rename_i h1; rw [if_neg h1]
  split at h
  · rename_i h2; rw [if_pos h2]
    split at h
    · rename_i h3
      injection h with e1 e2 e3 e4
      simp only [Bool.and_eq_true] at h3
      have ho : ordS t (d + j) (d + j + 1) = (d + (ordS s j (j + 1)).1, true) := by
        refine ord_shift d j (j + 1) hj ?_ (by rw [e3]; omega) (by omega) h3.1 ?_
        · intro i hi hi'; exact hA i hi (by omega)
        · intro hlt
          rw [e4] at hlt ⊢
          rcases hE hlt with h4 | h4
          · exact Or.inl h4
          · exact Or.inr (letter_of_inner h4)
      rw [ho, extract_shift (s := s) d (by omega) (by omega) (fun i hi hi' => hA i hi (by omega)), if_pos (by simp [h3.2])]
      rw [← e1, ← e2, ← e3, ← e4]
    · cases h
  rename_i h2; rw [if_neg h2]
  split at h
  · rename_i h3; rw [if_pos h3]
    split at h
    · rename_i h4
      injection h with e1 e2 e3 e4
      have hr : runS plainN t (d + j + 1) 16 = d + runS plainN s (j + 1) 16 := by
        refine run_shift plainN d 16 (j + 1) (fun i hi hi' => hA i (by omega) (by omega)) (by omega) (fun _ => Or.inl ⟨h4.2.1, hA _ (by omega) (by omega)⟩)
      rw [hr, if_pos ⟨by omega, by omega, by rw [hA _ (by omega) (by omega)]; exact h4.2.2⟩]
      rw [← e1, ← e2, ← e3, ← e4]; rfl
    · cases h
  rename_i h3; rw [if_neg h3]
  split at h
  · rename_i h4; rw [if_pos h4]
    split at h
    · cases h
    · rename_i h5
      injection h with e1 e2 e3 e4
      have hr : runS innerN t (d + j) 16 = d + runS innerN s j 16 := by
        refine run_shift innerN d 16 j (fun i hi hi' => hA i (by omega) (by omega)) (by omega) (fun hlt => ?_)
        rw [e4] at hlt ⊢
        rcases hE hlt with h6 | h6
        · exact Or.inl h6
        · exact Or.inr (Or.inl h6)
      rw [hr, if_neg]
      · rw [← e1, ← e2, ← e3, ← e4]
      rintro ⟨h6, h7⟩
      rw [e4] at h6 h7
      rcases hE h6 with h8 | h8
      · exact h5 (by rw [e4]; exact ⟨h8.1, by rw [← h8.2]; exact h7⟩)
      · rw [h8] at h7; cases h7
  · cases h

/-! ### Blanks -/
def gapRun : List Nat → Bool → Option Bool
  | [], cm => some cm
  | c :: l, true => gapRun l (decide (c ≠ 10))
  | c :: l, false => if c = 35 then gapRun l true else if blankN c then gapRun l false else none

theorem gap_skip {t : ByteArray} : ∀ (l : List Nat) (cm cm' : Bool) (i : Nat), gapRun l cm = some cm' → (∀ k c, l[k]? = some c → bt t (i + k) = c) → i + l.length ≤ t.size → skipS t cm i = skipS t cm' (i + l.length)
  | [], cm, cm', i, h, _, _ => by simp [gapRun] at h; rw [h]; rfl
  | c :: l, cm, cm', i, h, ha, hle => by
    have h0 : bt t i = c := ha 0 c rfl
    have hi : i < t.size := by simp at hle; omega
    have hrest : ∀ k x, l[k]? = some x → bt t (i + 1 + k) = x := fun k x hk => by
      rw [show i + 1 + k = i + (k + 1) by omega]; exact ha (k + 1) x (by simpa using hk)
    have hl : i + (c :: l).length = i + 1 + l.length := by simp; omega
    rw [hl] at hle ⊢
    cases cm with
    | true =>
      simp only [gapRun] at h
      rw [← gap_skip l _ _ (i + 1) h hrest hle]
      conv => lhs; unfold skipS
      rw [if_pos hi, if_pos rfl, h0]
    | false =>
      simp only [gapRun] at h
      split at h
      · rename_i h35
        rw [← gap_skip l _ _ (i + 1) h hrest hle]
        conv => lhs; unfold skipS
        rw [if_pos hi, if_neg (by simp), if_pos (by rw [h0]; exact h35)]
      · rename_i h35
        split at h
        · rename_i hb
          rw [← gap_skip l _ _ (i + 1) h hrest hle]
          conv => lhs; unfold skipS
          rw [if_pos hi, if_neg (by simp), if_neg (by rw [h0]; exact h35), if_pos (by rw [h0]; exact hb)]
        · cases h

def bytesN (s : ByteArray) : List Nat := s.data.toList.map (·.toNat)
theorem bytesN_len (s : ByteArray) : (bytesN s).length = s.size := by simp [bytesN]
theorem bytesN_at {s : ByteArray} {k c : Nat} (h : (bytesN s)[k]? = some c) : bt s k = c := by
  unfold bytesN at h
  rw [List.getElem?_map, Option.map_eq_some_iff] at h
  obtain ⟨x, hx, rfl⟩ := h
  rw [bt_list]
  simp [List.getD_eq_getElem?_getD, hx]

theorem app_bt {s t : ByteArray} {i : Nat} (h : i < s.size) : bt (s ++ t) i = bt s i := by
  rw [bt_list, bt_list]
  simp only [ByteArray.data_append, Array.toList_append, List.getD_eq_getElem?_getD]
  rw [List.getElem?_append_left (by simpa using h)]
theorem app_bt2 {s t : ByteArray} (i : Nat) : bt (s ++ t) (s.size + i) = bt t i := by
  rw [bt_list, bt_list]
  simp only [ByteArray.data_append, Array.toList_append, List.getD_eq_getElem?_getD]
  rw [List.getElem?_append_right (by simp)]
  simp

/-- May a text stand behind a word? -/
def Behind (U : ByteArray) : Prop := U.size = 0 ∨ blankN (bt U 0) = true ∨ bt U 0 = 35

/-- A text that is read as these words, whatever stands behind. -/
def Spread (T : ByteArray) (W : List Wd) : Prop := ∀ U : ByteArray, (T.size = 0 ∨ Behind U) → allS (T ++ U) 0 = (W ++ (allS (T ++ U) T.size).1, (allS (T ++ U) T.size).2)

/-- A word's text by itself. -/
def OKW (s : ByteArray) (kd : Nat) (txt : ByteArray) : Prop := 0 < s.size ∧ blankN (bt s 0) = false ∧ bt s 0 ≠ 35 ∧ ∃ a b, oneS s 0 = .word kd a b s.size ∧ s.extract a b = txt

theorem spread_nil : Spread ⟨#[]⟩ [] := by
  intro U _
  rfl

theorem app_assoc (a b c : ByteArray) : a ++ b ++ c = a ++ (b ++ c) := by
  apply bs_ext
  simp [ByteArray.data_append]

theorem spread_step {T G s txt : ByteArray} {W : List Wd} {kd : Nat} (h : Spread T W) (hw : OKW s kd txt) (hG : gapRun (bytesN G) false = some false) (hG0 : (G.size = 0 ∧ T.size = 0) ∨ Behind G ∧ 0 < G.size) :
    Spread (T ++ G ++ s) (W ++ [((kd : Int), txt, ((T.size + G.size : Nat) : Int))]) := by
  obtain ⟨hs0, hs1, hs2, a, b, h1, h2⟩ := hw
  intro U hU
  have hsz : (T ++ G ++ s).size = T.size + G.size + s.size := by rw [ByteArray.size_append, ByteArray.size_append]
  have hU : Behind U := by
    rcases hU with hU | hU
    · omega
    · exact hU
  have hX : T ++ G ++ s ++ U = T ++ (G ++ (s ++ U)) := by rw [app_assoc, app_assoc]
  have hXs : (T ++ G ++ s ++ U).size = T.size + G.size + s.size + U.size := by rw [ByteArray.size_append, hsz]
  have hU' : T.size = 0 ∨ Behind (G ++ (s ++ U)) := by
    rcases hG0 with h3 | ⟨h3, h4⟩
    · exact Or.inl h3.2
    · refine Or.inr (Or.inr ?_)
      rw [app_bt h4]
      rcases h3 with h3 | h3
      · omega
      · exact h3
  have h3 := h (G ++ (s ++ U)) hU'
  rw [← hX] at h3
  rw [h3]
  -- the bytes
  have bG : ∀ i, i < G.size → bt (T ++ G ++ s ++ U) (T.size + i) = bt G i := fun i hi => by
    rw [hX, app_bt2, app_bt hi]
  have bs : ∀ i, i < s.size → bt (T ++ G ++ s ++ U) (T.size + G.size + i) = bt s i := fun i hi => by
    rw [hX, show T.size + G.size + i = T.size + (G.size + i) by omega, app_bt2, app_bt2, app_bt hi]
  have bU : bt (T ++ G ++ s ++ U) (T.size + G.size + s.size) = bt U 0 := by
    rw [hX, show T.size + G.size + s.size = T.size + (G.size + (s.size + 0)) by omega, app_bt2, app_bt2, app_bt2]
  generalize hXX : T ++ G ++ s ++ U = X at hXs bG bs bU h3 ⊢
  have hk : skipS X false T.size = T.size + G.size := by
    rw [gap_skip (bytesN G) false false T.size hG (fun k c hc => by
      have hlt := (List.getElem?_eq_some_iff.1 hc).1
      rw [bytesN_len] at hlt
      rw [bG k hlt]; exact bytesN_at hc) (by rw [bytesN_len]; omega), bytesN_len]
    have e := bs 0 hs0
    rw [Nat.add_zero] at e
    exact skip_none (by omega) (by rw [e]; exact hs1) (by rw [e]; exact hs2)
  have hw' := one_word hs0 h1
  have ho : oneS X (T.size + G.size) = .word kd (T.size + G.size + a) (T.size + G.size + b) (T.size + G.size + s.size) := by
    refine word_shift (T.size + G.size) hs0 h1 (fun i _ hi => bs i hi) (by omega) (fun hlt => Or.inr ?_)
    rw [bU]
    rcases hU with hU | hU | hU
    · omega
    · simp [blankN, innerN, letterN] at hU ⊢; omega
    · rw [hU]; rfl
  rw [all_word (by rw [hk]; omega) (by rw [hk]; exact ho), hk, extract_shift (s := s) (T.size + G.size) (by omega) (by omega) (fun j hj hj' => bs j (by omega)), h2, hsz]
  simp

theorem spread_end {T U : ByteArray} {W : List Wd} {cm : Bool} (h : Spread T W) (hU : Behind U) (hg : gapRun (bytesN U) false = some cm) : allS (T ++ U) 0 = (W, none) := by
  rw [h U (Or.inr hU)]
  have hsz : (T ++ U).size = T.size + U.size := ByteArray.size_append
  have hk : skipS (T ++ U) false T.size = (T ++ U).size := by
    rw [gap_skip (bytesN U) false cm T.size hg (fun k c hc => by rw [app_bt2]; exact bytesN_at hc) (by rw [bytesN_len]; omega), bytesN_len, skip_end (by omega)]
    omega
  rw [all_end (by omega)]
  simp

theorem okw_name {s : ByteArray} (h : NameP s) : OKW s 1 s := by
  refine ⟨h.1, ?_, ?_, 0, s.size, (name_one h).2, extract_all s⟩
  · have := h.2.2.1; simp [letterN, blankN] at *; omega
  · have := h.2.2.1; simp [letterN] at *; omega
theorem okw_quo {s : ByteArray} (h : TermP s) : OKW (quo s) 2 s := by
  obtain ⟨h1, h2, h3⟩ := term_run.1 h
  refine ⟨by rw [quo_size]; omega, by rw [quo_0]; rfl, by rw [quo_0]; omega, 1, s.size + 1, ?_, quo_extract s⟩
  rw [quo_one, h3, if_pos ⟨by omega, by omega, quo_end s⟩, quo_size]

def isW (o : One) (kd a b n : Nat) : Bool := match o with
  | .word k x y z => k == kd && x == a && y == b && z == n
  | .bad _ => false
theorem isW_eq {o : One} {kd a b n : Nat} (h : isW o kd a b n = true) : o = .word kd a b n := by
  cases o with
  | bad k => cases h
  | word k x y z => simp [isW] at h; rw [h.1.1.1, h.1.1.2, h.1.2, h.2]
def okwB (s : ByteArray) (kd : Nat) : Bool := decide (0 < s.size) && !(blankN (bt s 0)) && decide (bt s 0 ≠ 35) && isW (oneS s 0) kd 0 s.size s.size
theorem okw_of {s : ByteArray} {kd : Nat} (h : okwB s kd = true) : OKW s kd s := by
  simp [okwB] at h
  exact ⟨h.1.1.1, h.1.1.2, h.1.2, 0, s.size, isW_eq h.2, extract_all s⟩
end Go.Px.Scan
