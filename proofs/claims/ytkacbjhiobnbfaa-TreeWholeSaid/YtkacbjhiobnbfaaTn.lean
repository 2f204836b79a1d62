/-
  Texts of this claim: Lf1, Lf2, Lf3.
-/
import Derived.Test.YtkacbjhiobnbfaaTd
import Derived.Test.YtkacbjhiobnbfaaTj
import Derived.Test.YtkacbjhiobnbfaaTg
/-
  Forests: each node has one parent at most; the nodes below one, in order.
-/
namespace Go.Proofs.Ytkacbjhiobnbfaa
open Go.Px Go.Px.Scan
abbrev kidsAt (l : List Nd) (n : Nat) : List Nat := kidsN (l.getD n zN)
def ordK (rt : Bool) (ks : List Nat) : List Nat := if rt then ks.reverse else ks
theorem ordK_mem {rt : Bool} {ks : List Nat} {k : Nat} : k ∈ ordK rt ks ↔ k ∈ ks := by cases rt <;> simp [ordK]
theorem ordK_nodup {rt : Bool} {ks : List Nat} : (ordK rt ks).Nodup ↔ ks.Nodup := by
  cases rt
  · rfl
  · simp [ordK, List.Nodup, List.pairwise_reverse, ne_comm]
theorem flatMap_same {α β : Type} {f g : α → List β} : ∀ {l : List α}, (∀ x ∈ l, f x = g x) → l.flatMap f = l.flatMap g
  | [], _ => rfl
  | x :: l, h => by rw [List.flatMap_cons, List.flatMap_cons, h x (by simp), flatMap_same fun y hy => h y (by simp [hy])]
theorem nodup_fm {α β : Type} {f : α → List β} : ∀ {l : List α}, (l.flatMap f).Nodup ↔ (∀ x ∈ l, (f x).Nodup) ∧ l.Pairwise fun a b => ∀ y ∈ f a, ∀ z ∈ f b, y ≠ z
  | [] => by simp
  | x :: l => by
    rw [List.flatMap_cons, List.nodup_append, nodup_fm, List.pairwise_cons]
    constructor
    · rintro ⟨h1, ⟨h2, h3⟩, h4⟩
      refine ⟨fun y hy => ?_, fun b hb y hy z hz => h4 y hy z (List.mem_flatMap.2 ⟨b, hb, hz⟩), h3⟩
      rcases List.mem_cons.1 hy with rfl | hy
      · exact h1
      · exact h2 y hy
    · rintro ⟨h1, h2, h3⟩
      refine ⟨h1 x (by simp), ⟨fun y hy => h1 y (by simp [hy]), h3⟩, fun y hy z hz => ?_⟩
      obtain ⟨b, hb, hz⟩ := List.mem_flatMap.1 hz
      exact h2 b hb y hy z hz
def preF (l : List Nd) (rt : Bool) : Nat → Nat → List Nat
  | 0, n => [n]
  | f + 1, n => n :: (ordK rt (kidsAt l n)).flatMap (preF l rt f)
/-- The nodes below a node, itself first. -/
def pre (l : List Nd) (rt : Bool) (n : Nat) : List Nat := preF l rt n n
structure Forest (l : List Nd) : Prop where
  ok : ∀ n, n < l.length → okN n (l.getD n zN)
  uniq : (l.flatMap kidsN).Nodup
section
variable {l : List Nd} {rt : Bool}
theorem Forest.lt (h : Forest l) {n k : Nat} (hk : k ∈ kidsAt l n) : k < n ∧ n < l.length := by
  by_cases hn : n < l.length
  · exact ⟨kids_lt (h.ok n hn) k hk, hn⟩
  · have e : l.getD n zN = zN := by simp [Nat.le_of_not_lt hn]
    rw [kidsAt, e] at hk
    simp [kidsN, zN] at hk
theorem preF_eq (h : Forest l) : ∀ n f, n ≤ f → preF l rt f n = n :: (ordK rt (kidsAt l n)).flatMap fun k => preF l rt k k := by
  intro n
  induction n using Nat.strongRecOn with
  | _ n ih =>
    intro f hf
    cases f with
    | zero =>
      have hn : n = 0 := by omega
      subst hn
      have : ordK rt (kidsAt l 0) = [] := List.eq_nil_iff_forall_not_mem.2 fun k hk => by have := (h.lt (ordK_mem.1 hk)).1; omega
      rw [this]; rfl
    | succ g =>
      show n :: (ordK rt (kidsAt l n)).flatMap (preF l rt g) = _
      congr 1
      refine flatMap_same fun k hk => ?_
      have hk := (h.lt (ordK_mem.1 hk)).1
      rw [ih k hk g (by omega), ih k hk k (Nat.le_refl _)]
theorem pre_eq (h : Forest l) (n : Nat) : pre l rt n = n :: (ordK rt (kidsAt l n)).flatMap (pre l rt) := preF_eq h n n (Nat.le_refl _)
theorem pre_self (h : Forest l) (n : Nat) : n ∈ pre l rt n := by rw [pre_eq h]; simp
theorem mem_pre (h : Forest l) {n x : Nat} : x ∈ pre l rt n ↔ x = n ∨ ∃ k ∈ kidsAt l n, x ∈ pre l rt k := by
  rw [pre_eq h, List.mem_cons, List.mem_flatMap]
  simp only [ordK_mem]
theorem pre_le (h : Forest l) : ∀ n x, x ∈ pre l rt n → x ≤ n := by
  intro n
  induction n using Nat.strongRecOn with
  | _ n ih =>
    intro x hx
    rcases (mem_pre h).1 hx with rfl | ⟨k, hk, hx⟩
    · exact Nat.le_refl _
    · have h1 := (h.lt hk).1
      have := ih k h1 x hx; omega
/-- What is below a node but itself has its parent there. -/
theorem pre_up (h : Forest l) : ∀ n x, x ∈ pre l rt n → x ≠ n → ∃ m ∈ pre l rt n, x ∈ kidsAt l m := by
  intro n
  induction n using Nat.strongRecOn with
  | _ n ih =>
    intro x hx hne
    rcases (mem_pre h).1 hx with rfl | ⟨k, hk, hx⟩
    · exact absurd rfl hne
    · by_cases e : x = k
      · subst e; exact ⟨n, pre_self h n, hk⟩
      · obtain ⟨m, hm, hxm⟩ := ih k (h.lt hk).1 x hx e
        exact ⟨m, (mem_pre h).2 (Or.inr ⟨k, hk, hm⟩), hxm⟩
theorem uniq_at : ∀ {l : List Nd} {m n k : Nat}, (l.flatMap kidsN).Nodup → k ∈ kidsAt l m → k ∈ kidsAt l n → m = n
  | [], m, n, k, _, h1, _ => by simp [kidsAt, kidsN, zN] at h1
  | x :: l, m, n, k, hu, h1, h2 => by
    rw [List.flatMap_cons, List.nodup_append] at hu
    obtain ⟨hu1, hu2, hu3⟩ := hu
    have mem : ∀ j, k ∈ kidsAt l j → k ∈ l.flatMap kidsN := by
      intro j hj
      by_cases hl : j < l.length
      · exact List.mem_flatMap.2 ⟨l[j], List.getElem_mem hl, by simpa [kidsAt, hl] using hj⟩
      · have e : l.getD j zN = zN := by simp [Nat.le_of_not_lt hl]
        rw [kidsAt, e] at hj; simp [kidsN, zN] at hj
    match m, n, h1, h2 with
    | 0, 0, _, _ => rfl
    | 0, n + 1, h1, h2 => exact absurd rfl (hu3 k (by simpa [kidsAt] using h1) k (mem n (by simpa [kidsAt] using h2)))
    | m + 1, 0, h1, h2 => exact absurd rfl (hu3 k (by simpa [kidsAt] using h2) k (mem m (by simpa [kidsAt] using h1)))
    | m + 1, n + 1, h1, h2 => rw [uniq_at hu2 (m := m) (n := n) (by simpa [kidsAt] using h1) (by simpa [kidsAt] using h2)]
theorem kids_nodup (h : Forest l) (n : Nat) : (kidsAt l n).Nodup := by
  by_cases hl : n < l.length
  · have hm := List.getElem_mem hl
    have : kidsAt l n = kidsN l[n] := by simp [kidsAt, hl]
    rw [this]
    exact (nodup_fm.1 h.uniq).1 _ hm
  · have e : l.getD n zN = zN := by simp [Nat.le_of_not_lt hl]
    rw [kidsAt, e]; simp [kidsN, zN]
/-- Of two nodes with something below both, one is below the other. -/
theorem pre_chain (h : Forest l) {a b : Nat} : ∀ (d x : Nat), l.length - x = d → x ∈ pre l rt a → x ∈ pre l rt b → a ∈ pre l rt b ∨ b ∈ pre l rt a := by
  intro d
  induction d using Nat.strongRecOn with
  | _ d ih =>
    intro x hd ha hb
    by_cases e1 : x = a
    · subst e1; exact Or.inl hb
    by_cases e2 : x = b
    · subst e2; exact Or.inr ha
    obtain ⟨m, hm, hxm⟩ := pre_up h a x ha e1
    obtain ⟨m', hm', hxm'⟩ := pre_up h b x hb e2
    obtain rfl := uniq_at h.uniq hxm hxm'
    have := h.lt hxm
    exact ih (l.length - m) (by omega) m rfl hm hm'
theorem pre_nodup (h : Forest l) : ∀ n, (pre l rt n).Nodup := by
  intro n
  induction n using Nat.strongRecOn with
  | _ n ih =>
    rw [pre_eq h, List.nodup_cons]
    refine ⟨fun hn => ?_, ?_⟩
    · obtain ⟨k, hk, hx⟩ := List.mem_flatMap.1 hn
      have := pre_le h k n hx
      have := (h.lt (ordK_mem.1 hk)).1; omega
    · refine nodup_fm.2 ⟨fun k hk => ih k (h.lt (ordK_mem.1 hk)).1, ?_⟩
      have hnd := ordK_nodup (rt := rt).2 (kids_nodup h n)
      refine (List.Pairwise.and_mem.1 hnd).imp ?_
      rintro a b ⟨ha, hb, hne⟩
      have ha := ordK_mem.1 ha
      have hb := ordK_mem.1 hb
      have key : ∀ {a b : Nat}, a ∈ kidsAt l n → b ∈ kidsAt l n → a ≠ b → a ∉ pre l rt b := by
        intro a b ha hb hne hin
        obtain ⟨m, hm, ham⟩ := pre_up h b a hin hne
        obtain rfl := uniq_at h.uniq ham ha
        have := pre_le h b m hm
        have := (h.lt hb).1; omega
      rintro x hxa _ hxb rfl
      rcases pre_chain h _ x rfl hxa hxb with h1 | h1
      · exact key ha hb hne h1
      · exact key hb ha (Ne.symm hne) h1
theorem walkF_pre' (h : Forest l) : ∀ (f : Nat) (out ws : List Nat), (out ++ ws.flatMap (pre l rt)).Nodup → (∀ x ∈ ws, x < l.length) → (ws.flatMap (pre l rt)).length ≤ f → walkF l rt f out ws = some (out ++ ws.flatMap (pre l rt))
  | f, out, [], _, _, _ => by cases f <;> simp [walkF]
  | 0, out, n :: ws, _, _, hf => by rw [List.flatMap_cons, pre_eq h] at hf; simp at hf
  | f + 1, out, n :: ws, hnd, hlt, hf => by
    have hn := hlt n (by simp)
    rw [walkF]
    have e1 : out ++ (n :: ws).flatMap (pre l rt) = (out ++ [n]) ++ (nextW rt (l.getD n zN) ws).flatMap (pre l rt) := by
      rw [List.flatMap_cons, pre_eq h]
      have : nextW rt (l.getD n zN) ws = ordK rt (kidsAt l n) ++ ws := by unfold nextW ordK; rfl
      rw [this, List.flatMap_append]
      simp
    rw [e1] at hnd
    have hfr : freshN (n :: (out ++ ws)) (kidsN (l.getD n zN)) := by
      refine ⟨kids_nodup h n, fun k hk hin => ?_⟩
      have hk1 : k ∈ pre l rt k := pre_self h k
      have hkk : k ∈ (ordK rt (kidsAt l n)).flatMap (pre l rt) := List.mem_flatMap.2 ⟨k, ordK_mem.2 hk, hk1⟩
      have : nextW rt (l.getD n zN) ws = ordK rt (kidsAt l n) ++ ws := by unfold nextW ordK; rfl
      rw [this, List.flatMap_append, ← List.append_assoc, List.nodup_append] at hnd
      obtain ⟨hnd1, _, hnd3⟩ := hnd
      rw [List.nodup_append] at hnd1
      rcases List.mem_cons.1 hin with rfl | hin
      · exact hnd1.2.2 k (by simp) k hkk rfl
      · rcases List.mem_append.1 hin with hin | hin
        · exact hnd1.2.2 k (by simp [hin]) k hkk rfl
        · exact hnd3 k (by simp only [List.mem_append]; exact Or.inr hkk) k (List.mem_flatMap.2 ⟨k, hin, pre_self h k⟩) rfl
    rw [if_pos ⟨h.ok n hn, hfr⟩, e1]
    refine walkF_pre' h f _ _ hnd (fun x hx => ?_) ?_
    · unfold nextW at hx
      rcases List.mem_append.1 hx with hx | hx
      · have : x ∈ kidsAt l n := by cases rt <;> simpa [kidsAt] using hx
        have := (h.lt this).1; omega
      · exact hlt x (by simp [hx])
    · have := congrArg List.length e1
      simp only [List.length_append, List.length_cons, List.length_nil] at this
      omega
theorem walkP_pre (h : Forest l) {n : Nat} (hn : n < l.length) : walkP l rt n = some (pre l rt n) := by
  unfold walkP
  rw [if_pos ⟨by omega, by omega⟩]
  have hl : (pre l rt n).length ≤ l.length := nodup_len _ _ (pre_nodup h n) fun x hx => by have := pre_le h n x hx; omega
  have := walkF_pre' (rt := rt) h l.length [] [n] (by simpa using pre_nodup h n) (by simpa using hn) (by simpa using hl)
  simpa using this
/-- The leaves' symbols, the productions of a row of nodes. -/
def frL (l : List Nd) (n : Nat) : List Int := if (l.getD n zN).2.1 < 0 then [(l.getD n zN).1] else []
def rmL (l : List Nd) (n : Nat) : List Int := if 0 ≤ (l.getD n zN).2.1 then [(l.getD n zN).2.1] else []
theorem looks_fr : ∀ (r : List Nat) (s : List Int), looks (frV l) s r = some (s ++ r.flatMap (frL l))
  | [], s => by simp [looks]
  | n :: r, s => by
    have e : looks (frV l) s (n :: r) = looks (frV l) (s ++ frL l n) r := by
      unfold looks
      rw [List.foldl_cons]
      congr 1
      show frV l s n = _
      unfold frV frL
      split <;> simp
    rw [e, looks_fr r, List.flatMap_cons]; simp
theorem looks_rm : ∀ (r : List Nat) (s : List Int), looks (rmV l) s r = some (s ++ r.flatMap (rmL l))
  | [], s => by simp [looks]
  | n :: r, s => by
    have e : looks (rmV l) s (n :: r) = looks (rmV l) (s ++ rmL l n) r := by
      unfold looks
      rw [List.foldl_cons]
      congr 1
      show rmV l s n = _
      unfold rmV rmL
      split <;> simp
    rw [e, looks_rm r, List.flatMap_cons]; simp
def frT (l : List Nd) (n : Nat) : List Int := (pre l false n).flatMap (frL l)
def rmT (l : List Nd) (n : Nat) : List Int := (pre l true n).flatMap (rmL l)
theorem frT_look (h : Forest l) {n : Nat} (hn : n < l.length) : lookP l false (frV l) [] n = some (frT l n) := by
  rw [lookP_walk, walkP_pre h hn, Option.bind_some, looks_fr]; rfl
theorem rmT_look (h : Forest l) {n : Nat} (hn : n < l.length) : lookP l true (rmV l) [] n = some (rmT l n) := by
  rw [lookP_walk, walkP_pre h hn, Option.bind_some, looks_rm]; rfl
theorem frT_eq (h : Forest l) (n : Nat) : frT l n = frL l n ++ (kidsAt l n).flatMap (frT l) := by
  unfold frT
  rw [pre_eq h, List.flatMap_cons, List.flatMap_assoc]; rfl
theorem rmT_eq (h : Forest l) (n : Nat) : rmT l n = rmL l n ++ (kidsAt l n).reverse.flatMap (rmT l) := by
  unfold rmT
  rw [pre_eq h, List.flatMap_cons, List.flatMap_assoc]; rfl
end
end Go.Proofs.Ytkacbjhiobnbfaa

/-
  An arena is a forest.
-/
namespace Go.Proofs.Ytkacbjhiobnbfaa
open Go.Px Go.Px.Scan
structure ForM (l : List Nd) (met : List Nat) : Prop where
  forest : Forest l
  met : ∀ k ∈ l.flatMap kidsN, k ∈ met
theorem getD_snoc {l : List Nd} {x : Nd} {n : Nat} (h : n < l.length) : (l ++ [x]).getD n zN = l.getD n zN := by simp [List.getElem?_append_left h]
theorem getD_last {l : List Nd} {x : Nd} : (l ++ [x]).getD l.length zN = x := by simp
theorem ForM.nil : ForM [] [] := ⟨⟨fun n h => by simp at h, by simp⟩, by simp⟩
theorem ForM.leaf {l : List Nd} {met : List Nat} (h : ForM l met) (sy tk : Int) : ForM (leafS l met sy tk).2.1 (leafS l met sy tk).2.2 := by
  unfold leafS
  split
  · exact h
  · rename_i hno
    refine ⟨⟨fun n hn => ?_, ?_⟩, ?_⟩
    · by_cases e : n < l.length
      · simp only [getD_snoc e]; exact h.forest.ok n e
      · have hn' : n = l.length := by simp at hn; omega
        subst hn'
        simp only [getD_last]
        exact ⟨by show 0 ≤ sy; omega, Or.inl ⟨rfl, by show 0 ≤ tk; omega, rfl⟩⟩
    · simpa [List.flatMap_append, kidsN] using h.forest.uniq
    · simpa [List.flatMap_append, kidsN] using h.met
theorem ForM.join {l : List Nd} {met : List Nat} (h : ForM l met) (sy pr : Int) (ks : List Int) : ForM (joinS l met sy pr ks).2.1 (joinS l met sy pr ks).2.2 := by
  unfold joinS
  split
  · exact h
  · rename_i hno
    have hok : kidsOk l.length met ks := by
      by_cases e : kidsOk l.length met ks
      · exact e
      · exact absurd (Or.inr (Or.inr e)) hno
    refine ⟨⟨fun n hn => ?_, ?_⟩, ?_⟩
    · by_cases e : n < l.length
      · simp only [getD_snoc e]; exact h.forest.ok n e
      · have hn' : n = l.length := by simp at hn; omega
        subst hn'
        simp only [getD_last]
        exact ⟨by show 0 ≤ sy; omega, Or.inr ⟨by show 0 ≤ pr; omega, rfl, hok.1⟩⟩
    · simp only [List.flatMap_append, List.flatMap_cons, List.flatMap_nil, List.append_nil]
      refine List.nodup_append.2 ⟨h.forest.uniq, hok.2.1, fun a ha b hb => ?_⟩
      rintro rfl
      exact hok.2.2 a hb (h.met a ha)
    · intro k hk
      simp only [List.flatMap_append, List.flatMap_cons, List.flatMap_nil, List.append_nil] at hk
      rcases List.mem_append.1 hk with hk | hk
      · exact List.mem_append.2 (Or.inr (h.met k hk))
      · exact List.mem_append.2 (Or.inl hk)
end Go.Proofs.Ytkacbjhiobnbfaa

/-
  TreeWhole.
-/
namespace Go.Proofs.Ytkacbjhiobnbfaa
open Go.Px Go.Px.Scan Go.RowKit
set_option maxHeartbeats 1000000
set_option linter.unusedSimpArgs false
set_option linter.unusedVariables false
set_option maxRecDepth 100000
attribute [-go_sem] Builtin.append_ law20_TreeWhole.b3 law20_TreeWhole.b3_1 law20_TreeWhole.b5 law20_TreeWhole.b6 law20_TreeWhole.b9 law20_TreeWhole.b11 law20_TreeWhole.b13 law20_TreeWhole.b13_1 law20_TreeWhole.b13_2 law20_TreeWhole.b16 law20_TreeWhole.b18 law20_TreeWhole.b18_1 law20_TreeWhole.b19 law20_TreeWhole.b20 law20_TreeWhole.b25 law20_TreeWhole.b27 law20_TreeWhole.b27_1 law20_TreeWhole.b27_2 law20_TreeWhole.b29 law20_TreeWhole.b30 law20_TreeWhole.b31 law20_TreeWhole.b32 law20_TreeWhole.b33 law20_TreeWhole.b35 law20_TreeWhole.b36 law20_TreeWhole.b36_1 law20_TreeWhole.b37 law20_TreeWhole.b38 law20_TreeWhole.b39 law20_TreeWhole.b40 law20_TreeWhole.b41 law20_TreeWhole.b45 law20_TreeWhole.b45_1 law20_TreeWhole.b45_2 law20_TreeWhole.b46 law20_TreeWhole.b48

theorem frT_len {l : List Nd} (h : Forest l) {n : Nat} (hn : n < l.length) : (frT l n).length ≤ l.length := by
  have h1 : (pre l false n).length ≤ l.length := nodup_len _ _ (pre_nodup h n) fun x hx => by have := pre_le h n x hx; omega
  have h2 : ∀ r : List Nat, (r.flatMap (frL l)).length ≤ r.length := by
    intro r
    induction r with
    | nil => simp
    | cons a r ih =>
      rw [List.flatMap_cons, List.length_append, List.length_cons]
      have : (frL l a).length ≤ 1 := by unfold frL; split <;> simp
      omega
  exact Nat.le_trans (h2 _) h1
theorem rmT_len {l : List Nd} (h : Forest l) {n : Nat} (hn : n < l.length) : (rmT l n).length ≤ l.length := by
  have h1 : (pre l true n).length ≤ l.length := nodup_len _ _ (pre_nodup h n) fun x hx => by have := pre_le h n x hx; omega
  have h2 : ∀ r : List Nat, (r.flatMap (rmL l)).length ≤ r.length := by
    intro r
    induction r with
    | nil => simp
    | cons a r ih =>
      rw [List.flatMap_cons, List.length_append, List.length_cons]
      have : (rmL l a).length ≤ 1 := by unfold rmL; split <;> simp
      omega
  exact Nat.le_trans (h2 _) h1
theorem flat_take_len {α β : Type} {f : α → List β} (l : List α) (k : Nat) : ((l.take k).flatMap f).length ≤ (l.flatMap f).length := by
  conv => rhs; rw [← List.take_append_drop k l, List.flatMap_append, List.length_append]
  omega
theorem flat_take_in {α : Type} {f : α → List Int} {l : List α} {k : Nat} (h : ∀ x ∈ l.flatMap f, inI64 x) : ∀ x ∈ (l.take k).flatMap f, inI64 x := by
  intro x hx
  obtain ⟨a, ha, hx⟩ := List.mem_flatMap.1 hx
  exact h x (List.mem_flatMap.2 ⟨a, List.mem_of_mem_take ha, hx⟩)

/-- One node is looked at. -/
theorem whole_at {W w1 : World} {R : EP} {C8 : VP} {a : Option Addr} {c : Nat} {us : List Value} {l : List Nd} {i : Nat} (hF : Forest l) (hin : ndIn l) (hkd : ∀ x ∈ l, x.2.2.2.length * 8 ≤ maxBytes) (hl : l.length ≤ 40) (hi : i < l.length) (s : St noB W w1 (ndC a c us l))
    (hC : ∀ w', St noB W w' (ndC a c us l) → C8 (.int .i64 ((i + 1 : Nat) : Int)) w') : law20_TreeWhole.b13 R C8 (.slice a l.length c) (.int .i64 i) w1 := by
  have wi : IntKind.i64.wrap ((i : Int) + 1) = ((i + 1 : Nat) : Int) := by rw [show (i : Int) + 1 = ((i + 1 : Nat) : Int) by omega]; exact IntWalk.i64_in _ (by omega)
  have h11 : ∀ w', St noB W w' (ndC a c us l) → law20_TreeWhole.b11 R C8 (.int .i64 i) w' := by
    intro w' s'
    unfold law20_TreeWhole.b11
    simp -dsimp [go_sem, wi]
    exact hC w' s'
  have hir : inI64 (i : Int) := by unfold inI64; omega
  have fin : ∀ n, n < l.length → ∀ x ∈ frT l n, inI64 x := fun n hn => fr_in hin (frT_look hF hn)
  have rin : ∀ n, n < l.length → ∀ x ∈ rmT l n, inI64 x := fun n hn => rm_in hin (rmT_look hF hn)
  unfold law20_TreeWhole.b13
  refine CALL_of (Frontier_ct (ndC_at s 0 1 rfl rfl hin) (Nat.le_refl _) (by omega) hkd hir) ?_
  intro v2 w2 hp
  rw [frT_look hF hi] at hp
  obtain ⟨fa, fc, rfl, s2⟩ := hp
  have s2 := s.seq s2
  unfold law20_TreeWhole.b13_2
  simp -dsimp [go_sem]
  refine CALL_of (Rightmost_ct (ndC_at s2 0 1 rfl rfl hin) (Nat.le_refl _) (by omega) hkd hir) ?_
  intro v3 w3 hp
  rw [rmT_look hF hi] at hp
  obtain ⟨ra, rc, rfl, s3⟩ := hp
  have s3 := s2.seq s3
  have s3 : St noB W w3 [rowC 61 4 a l.length c ((l.zip us).flatMap cNd), rowsC 3 1 us (l.map fun x => x.2.2.2.flatMap cNdI), rowC 3 1 fa (frT l i).length fc (intV (frT l i)), rowC 3 1 ra (rmT l i).length rc (intV (rmT l i))] := s3
  unfold law20_TreeWhole.b13_1
  simp -dsimp [go_sem]
  unfold law20_TreeWhole.b39
  simp -dsimp [go_sem]
  unfold law20_TreeWhole.b40
  simp -dsimp [go_sem]
  have hgd : l.getD i zN = l[i] := by simp [hi]
  have hok := hF.ok i hi
  rw [hgd] at hok
  have rd : ∀ {w'} {L : List Ch}, St noB W w' L → L[0]? = some (rowC 61 4 a l.length c ((l.zip us).flatMap cNd)) → L[1]? = some (rowsC 3 1 us (l.map fun x => x.2.2.2.flatMap cNdI)) → (rSlice rNd).at1 w' w'.heap.size (.slice a l.length c) l := fun s h0 h1 => ndC_at s 0 1 h0 h1 hin
  obtain ⟨bp, op, vr, ep, hbp, x1, x2, x3, x4, hkr, z1, z2, z3⟩ := nodes_at (rd s3 rfl rfl) hi
  have sld := rd s3 rfl rfl
  unfold law20_TreeWhole.b32
  rw [ep]
  simp -dsimp [go_sem, hi, x2]
  unfold law20_TreeWhole.b33
  refine SPL_intro (fun p1 => ?_) (fun p1 => ?_) <;> simp at p1
  · have hk0 : l[i].2.2.2 = [] := by
      rcases hok.2 with h | h
      · exact h.2.2
      · omega
    have e1 : frT l i = [l[i].1] := by
      rw [frT_eq hF, kidsAt, hgd]
      simp [frL, hi, p1, kidsN, hk0]
    have e2 : rmT l i = [] := by
      rw [rmT_eq hF, kidsAt, hgd]
      simp [rmL, hi, kidsN, hk0]; omega
    have hf1 := fin i hi
    rw [e1] at s3 hf1 ⊢
    rw [e2] at s3 ⊢
    unfold law20_TreeWhole.b36
    have s4 := s3.alloc #[.int .i64 l[i].1] 3
    simp -dsimp [go_sem, hi, x1]
    generalize w3.alloc (.cells #[.int .i64 l[i].1] 3) = w4 at s4 ⊢
    generalize w3.heap.size = q4 at s4 ⊢
    refine CALL_of (Ints_ct (int_rd (l := [l[i].1]) s4 2 rfl hf1) (box_rd (l := [l[i].1]) s4 4 rfl hf1 (by simp [maxLen])) (Nat.le_refl _)) ?_
    rintro _ w5 ⟨rfl, hc5⟩
    have s5 := s4.old hc5
    simp -dsimp [go_sem]
    unfold law20_TreeWhole.b36_1
    simp -dsimp [go_sem]
    unfold law20_TreeWhole.b37
    simp -dsimp [go_sem]
    unfold law20_TreeWhole.b35
    exact h11 _ (s5.take 2)
  · have hks : 0 ≤ l[i].2.1 ∧ ∀ k ∈ l[i].2.2.2, 0 ≤ k ∧ k < i := by
      rcases hok.2 with h | h
      · omega
      · exact ⟨h.1, h.2.2⟩
    obtain ⟨ks, hkse⟩ : ∃ ks, l[i].2.2.2 = ks := ⟨_, rfl⟩
    rw [hkse] at hks hkr
    have hk8 := hkd _ (List.getElem_mem hi)
    rw [hkse] at hk8
    have hkn : kidsAt l i = ks.map Int.toNat := by rw [kidsAt, hgd]; simp [kidsN, hkse]
    have hfe : frT l i = (ks.map Int.toNat).flatMap (frT l) := by
      rw [frT_eq hF, hkn]
      simp [frL, hi]; omega
    have hre : rmT l i = [l[i].2.1] ++ (ks.map Int.toNat).reverse.flatMap (rmT l) := by
      rw [rmT_eq hF, hkn]
      congr 1
      simp [rmL, hi]; omega
    have hnk : ∀ (k : Nat) (h : k < ks.length), ∃ n : Nat, ks[k] = n ∧ n < l.length := by
      intro k h
      have := hks.2 _ (List.getElem_mem h)
      exact ⟨ks[k].toNat, by omega, by omega⟩
    unfold law20_TreeWhole.b38 law20_TreeWhole.b16
    have s4 := (s3.nilRow 3 1).lit 3 1 1 #[.int .i64 l[i].2.1] (by simp [maxLen]) rfl
    simp -dsimp [go_sem, hi, x2]
    rw [← ep]
    generalize w3.alloc (.cells #[.int .i64 l[i].2.1] 3) = w4 at s4 ⊢
    generalize w3.heap.size = q4 at s4 ⊢
    have s4 : St noB W w4 [rowC 61 4 a l.length c ((l.zip us).flatMap cNd), rowsC 3 1 us (l.map fun x => x.2.2.2.flatMap cNdI), rowC 3 1 fa (frT l i).length fc (intV (frT l i)), rowC 3 1 ra (rmT l i).length rc (intV (rmT l i)), rowC 3 1 none 0 0 [], rowC 3 1 (some ⟨q4, 0, none⟩) 1 1 [.int .i64 l[i].2.1]] := s4
    unfold law20_TreeWhole.b20
    refine law20_TreeWhole.l22_intro _ _ _ _ _ _ _ _ _ _ (fun y z x w' => ∃ (k : Nat) (al bl : Option Addr) (ac bc : Nat), x = .int .i64 k ∧ k ≤ ks.length ∧ y = .slice al (((ks.map Int.toNat).take k).flatMap (frT l)).length ac ∧ z = .slice bl ([l[i].2.1] ++ ((ks.map Int.toNat).reverse.take k).flatMap (rmT l)).length bc ∧
      St noB W w' [rowC 61 4 a l.length c ((l.zip us).flatMap cNd), rowsC 3 1 us (l.map fun x => x.2.2.2.flatMap cNdI), rowC 3 1 fa (frT l i).length fc (intV (frT l i)), rowC 3 1 ra (rmT l i).length rc (intV (rmT l i)), rowC 3 1 al (((ks.map Int.toNat).take k).flatMap (frT l)).length ac (intV (((ks.map Int.toNat).take k).flatMap (frT l))), rowC 3 1 bl ([l[i].2.1] ++ ((ks.map Int.toNat).reverse.take k).flatMap (rmT l)).length bc (intV ([l[i].2.1] ++ ((ks.map Int.toNat).reverse.take k).flatMap (rmT l)))])
      (fun _ _ x _ => ks.length - iv x) ⟨0, none, some ⟨q4, 0, none⟩, 0, 1, rfl, by omega, rfl, rfl, s4⟩ ?_
    rintro _ _ _ w5 ⟨k, al, bl, ac, bc, rfl, hk, rfl, rfl, s5⟩ C hC2
    obtain ⟨bp5, op5, v5, ep5, hbp5, _, _, _, x45, hkr5, _⟩ := nodes_at (rd s5 rfl rfl) hi
    rw [hkse] at hkr5
    obtain ⟨Ak, ck, rfl, hk1, hk2, _⟩ := slice_form hkr5
    have hlf := frT_len hF hi
    have hlr := rmT_len hF hi
    rw [hfe] at hlf
    rw [hre, List.length_append] at hlr
    have hlf2 := fun k => flat_take_len (f := frT l) (ks.map Int.toNat) k
    have hlr2 := fun k => flat_take_len (f := rmT l) (ks.map Int.toNat).reverse k
    obtain ⟨fl, hfl⟩ : ∃ fl, ((ks.map Int.toNat).take k).flatMap (frT l) = fl := ⟨_, rfl⟩
    obtain ⟨rl, hrl⟩ : ∃ rl, [l[i].2.1] ++ ((ks.map Int.toNat).reverse.take k).flatMap (rmT l) = rl := ⟨_, rfl⟩
    rw [hfl, hrl] at s5 ⊢
    have hrll : rl.length ≤ 41 := by
      rw [← hrl, List.length_append]; have := hlr2 k; simp only [List.length_cons, List.length_nil] at hlr ⊢; omega
    have hfll : fl.length ≤ 40 := by
      rw [← hfl]; have := hlf2 k; omega
    rw [ep5]
    simp -dsimp [go_sem, hi, x45]
    refine SPL_intro (fun p2 => ?_) (fun p2 => ?_) <;> simp at p2
    · obtain ⟨n, hn, hnl⟩ := hnk k p2
      have hrk : ks.length - 1 - k < ks.length := by omega
      obtain ⟨m, hm, hml⟩ := hnk _ hrk
      obtain ⟨gk, ok, rfl, _, xk, _⟩ := Go.Px.ints_at hkr5 p2
      rw [hn] at xk
      have hin_n : inI64 (n : Int) := by unfold inI64; omega
      have hin_m : inI64 (m : Int) := by unfold inI64; omega
      have wk : IntKind.i64.wrap ((k : Int) + 1) = (k : Int) + 1 := IntWalk.i64_in _ (by unfold maxBytes at hk8; omega)
      have w1' : IntKind.i64.wrap ((ks.length : Int) - 1) = (ks.length : Int) - 1 := IntWalk.i64_in _ (by unfold maxBytes at hk8; omega)
      have w2' : IntKind.i64.wrap ((ks.length : Int) - 1 - k) = ((ks.length - 1 - k : Nat) : Int) := by rw [show (ks.length : Int) - 1 - k = ((ks.length - 1 - k : Nat) : Int) by omega]; exact IntWalk.i64_in _ (by unfold maxBytes at hk8; omega)
      have etf : ((ks.map Int.toNat).take (k + 1)).flatMap (frT l) = fl ++ frT l n := by
        rw [← hfl, List.take_succ_eq_append_getElem (by simpa using p2), List.flatMap_append]
        simp [hn]
      have etr : [l[i].2.1] ++ ((ks.map Int.toNat).reverse.take (k + 1)).flatMap (rmT l) = rl ++ rmT l m := by
        rw [← hrl, List.append_assoc, List.take_succ_eq_append_getElem (by simpa using p2), List.flatMap_append]
        simp [hm]
      have hlfn := frT_len hF hnl
      have hlrm := rmT_len hF hml
      unfold law20_TreeWhole.b27
      simp -dsimp [go_sem, hi, x45, p2, xk]
      rw [← ep5]
      refine CALL_of (Frontier_ct (rd s5 rfl rfl) (Nat.le_refl _) (by omega) hkd hin_n) ?_
      intro v6 w6 hp
      rw [frT_look hF hnl] at hp
      obtain ⟨xa, xc, rfl, s6⟩ := hp
      have s6 := s5.seq s6
      obtain ⟨bp6, op6, v6, ep6, hbp6, _, _, _, x46, hkr6, _⟩ := nodes_at (rd s6 rfl rfl) hi
      rw [hkse] at hkr6
      obtain ⟨Ak6, ck6, rfl, hk16, hk26, _⟩ := slice_form hkr6
      obtain ⟨gk6, ok6, rfl, _, xk6, _⟩ := Go.Px.ints_at hkr6 hrk
      rw [hm] at xk6
      have s6d := s6.old (Chg.refl noB _).drew
      unfold law20_TreeWhole.b27_2
      rw [ep6]
      simp -dsimp [go_sem, hi, x46, w1', w2', hrk, xk6]
      rw [← ep6]
      refine CALL_of (Rightmost_ct (rd s6d rfl rfl) (Nat.le_refl _) (by omega) hkd hin_m) ?_
      intro v7 w7 hp
      rw [rmT_look hF hml] at hp
      obtain ⟨ya, yc, rfl, s7⟩ := hp
      have s7 := s6d.seq s7
      unfold law20_TreeWhole.b27_1
      simp -dsimp [go_sem]
      unfold law20_TreeWhole.b30
      simp -dsimp [go_sem]
      unfold law20_TreeWhole.b31
      simp -dsimp [go_sem]
      unfold law20_TreeWhole.b29
      simp -dsimp [go_sem]
      refine s7.appendRd (r := rInt) (enc := cNdI) 4 rfl uInts iInt rfl (by decide) (int_rd (l := frT l n) s7 6 rfl (fin n hnl)) (fun h _ => h.1) (fun x _ u hu => by simp [cNdI] at hu; subst hu; rfl) (fun _ _ => rfl) (by unfold maxLen; omega) (by unfold maxBytes; omega) ?_
      intro al8 ac8 w8 s8
      simp -dsimp [go_sem]
      refine s8.appendRd (r := rInt) (enc := cNdI) 5 rfl uInts iInt rfl (by decide) (int_rd (l := rmT l m) s8 7 rfl (rin m hml)) (fun h _ => h.1) (fun x _ u hu => by simp [cNdI] at hu; subst hu; rfl) (fun _ _ => rfl) (by unfold maxLen; omega) (by unfold maxBytes; omega) ?_
      intro bl9 bc9 w9 s9
      unfold law20_TreeWhole.b25
      simp -dsimp [go_sem, wk]
      refine hC2 _ _ _ _ ⟨k + 1, al8, bl9, ac8, bc9, by simp, by omega, by rw [etf, List.length_append], by rw [etr, List.length_append], ?_⟩ (by simp [iv]; omega)
      have s10 := s9.take 6
      rw [etf, etr, intV_append, intV_append, List.length_append, List.length_append, intV_flat (frT l n), intV_flat (rmT l m)]
      exact s10
    · have hkl : k = ks.length := by omega
      subst hkl
      have t1 : (ks.map Int.toNat).take ks.length = ks.map Int.toNat := List.take_of_length_le (by simp)
      have t2 : (ks.map Int.toNat).reverse.take ks.length = (ks.map Int.toNat).reverse := List.take_of_length_le (by simp)
      rw [t1, ← hfe] at hfl
      rw [t2, ← hre] at hrl
      subst hfl hrl
      unfold law20_TreeWhole.b18
      refine CALL_of (Ints_ct (int_rd (l := frT l i) s5 2 rfl (fin i hi)) (int_rd (l := frT l i) s5 4 rfl (fin i hi)) (Nat.le_refl _)) ?_
      rintro _ w6 ⟨rfl, hc6⟩
      have s6 := s5.old hc6
      simp -dsimp [go_sem]
      unfold law20_TreeWhole.b18_1
      refine CALL_of (Ints_ct (int_rd (l := rmT l i) s6 3 rfl (rin i hi)) (int_rd (l := rmT l i) s6 5 rfl (rin i hi)) (Nat.le_refl _)) ?_
      rintro _ w7 ⟨rfl, hc7⟩
      have s7 := s6.old hc7
      simp -dsimp [go_sem]
      unfold law20_TreeWhole.b19
      simp -dsimp [go_sem]
      exact h11 _ (s7.take 2)

theorem TreeWhole_ct {w : World} {B : Nat} {vsc : Value} {sc : List Nd} (h : (rSlice rNd).at1 w B vsc sc) (hB : B ≤ w.heap.size) (hN : sc.length * 48 ≤ maxBytes) (hkd : ∀ x ∈ sc, x.2.2.2.length * 8 ≤ reachN) :
    Ct Try.prog law20_TreeWhole.id #[vsc] w fun v w' => v = .bool true ∧ Chg noB w w' := by
  refine law20_TreeWhole.ct fun R hR => ?_
  obtain ⟨A, cn, rfl, hl1, hl2, _⟩ := slice_form h
  have hin := ndIn_of h
  unfold law20_TreeWhole.run
  simp -dsimp [go_sem]
  refine CALL_of (New_ct w) ?_
  rintro _ w1 ⟨rfl, s1⟩
  generalize w.heap.size = ba at s1 ⊢
  have s3 : St noB w w1 [arC 81 ba [] []] := s1.turn (k := 0) rfl fun F ho => arC_new (T := 81) ho
  have i0 : InvA [] [] 0 := ⟨by simp, by simp, fun x hx => by simp at hx, by simp⟩
  have fin : ∀ l met i w', InvA l met i → ForM l met → i ≤ 40 → St noB w w' [arC 81 ba l met] → law20_TreeWhole.b3 R (.pointer (some ⟨ba, 0, none⟩)) w' := by
    intro l met i w3 hI hF hi s4
    have hl : l.length ≤ 40 := by have := hI.len; omega
    unfold law20_TreeWhole.b3
    refine CALL_of (Nodes_ct s4 (k := 0) rfl (by unfold maxBytes; omega) hI.kids hI.nums) ?_
    rintro _ w5 ⟨a, c, us, rfl, s5⟩
    have s6 := s4.seq s5
    unfold law20_TreeWhole.b3_1
    simp -dsimp [go_sem]
    refine CALL_of (ArLen_ct s6 (k := 0) rfl) ?_
    rintro _ _ ⟨rfl, rfl⟩
    simp -dsimp [go_sem]
    unfold law20_TreeWhole.b6
    have s7 : St noB w w5 (ndC a c us l) := s6.pick [1, 2] (by decide) rfl
    refine law20_TreeWhole.l8_intro _ _ _ _ (fun y w' => ∃ i : Nat, y = .int .i64 i ∧ i ≤ l.length ∧ St noB w w' (ndC a c us l)) (fun y _ => l.length - iv y) ⟨0, rfl, by omega, s7⟩ ?_
    rintro _ w8 ⟨i, rfl, hi, s8⟩ C hC
    unfold law20_TreeWhole.b9
    simp -dsimp [go_sem]
    refine SPL_intro (fun p1 => ?_) (fun p1 => ?_) <;> simp at p1
    · exact whole_at hF.forest hI.nums hI.kids hl p1 s8 fun w9 s9 => hC _ _ ⟨i + 1, rfl, by omega, s9⟩ (by simp [iv]; omega)
    · unfold law20_TreeWhole.b5
      refine CALL_of (awake20_ct w8) ?_
      rintro _ w9 ⟨rfl, hc9⟩
      exact hR _ _ ⟨rfl, s8.chg.trans hc9⟩
  simp -dsimp [go_sem]
  unfold law20_TreeWhole.b41
  refine law20_TreeWhole.l43_intro _ _ _ _ _ (fun y w' => ∃ (i : Nat) (l : List Nd) (met : List Nat), y = .int .i64 i ∧ i ≤ sc.length ∧ i ≤ 40 ∧ InvA l met i ∧ ForM l met ∧ St noB w w' [arC 81 ba l met]) (fun y _ => 40 - iv y) ⟨0, [], [], rfl, by omega, by omega, i0, ForM.nil, s3⟩ ?_
  rintro _ w3 ⟨i, l, met, rfl, hi, hi40, hI, hF, s4⟩ C hC
  have hl : l.length ≤ i := hI.len
  simp -dsimp [go_sem]
  refine SPL_intro (fun p1 => ?_) (fun p1 => ?_) <;> simp at p1
  · simp -dsimp [go_sem]
    unfold law20_TreeWhole.b48
    refine SPL_intro (fun p2 => ?_) (fun p2 => ?_) <;> simp at p2
    · have p2 : i < 40 := by omega
      have wi : IntKind.i64.wrap ((i : Int) + 1) = (i : Int) + 1 := IntWalk.i64_in _ (by omega)
      obtain ⟨bp, op, vr, ep, hbp, x1, x2, x3, x4, hkr, z1, z2, z3⟩ := nodes_at h p1
      subst ep
      have hbpw : bp < w.heap.size := by omega
      have x1 := (s4.chg.cell (p := ⟨bp, op + i * 4, none⟩) hbpw id).trans x1
      have x2 := (s4.chg.cell (p := ⟨bp, op + i * 4 + 1, none⟩) hbpw id).trans x2
      have x3 := (s4.chg.cell (p := ⟨bp, op + i * 4 + 2, none⟩) hbpw id).trans x3
      have x4 := (s4.chg.cell (p := ⟨bp, op + i * 4 + 3, none⟩) hbpw id).trans x4
      obtain ⟨Ar, cr, rfl, hr1, hr2, _⟩ := slice_form hkr
      have hk8 := hkd _ (List.getElem_mem p1)
      have hki := (hin _ (List.getElem_mem p1)).2.2.2
      obtain ⟨o, ho⟩ : ∃ o, sc[i] = o := ⟨_, rfl⟩
      rw [ho] at x1 x2 x3 x4 hkr hr1 z1 z2 z3 hk8 hki
      obtain ⟨kd, a, b, ks⟩ := o
      simp only at x1 x2 x3 x4 hkr hr1 z1 z2 z3 hk8 hki
      have ho' : sc[i].2.2.2 = ks := by rw [ho]
      have rk : ∀ {w'}, Chg noB w w' → (rSlice rInt).at1 w' w'.heap.size (.slice Ar ks.length cr) ks := fun hc => Rep.up (Rep.below hkr (hc.below hB fun _ _ => id)) (by have := hc.size; omega)
      have hk8' := reach_max hk8
      have hlb : (l.length + 1) * 48 ≤ maxBytes := by omega
      have next : ∀ l' met' w', InvA l' met' (i + 1) → ForM l' met' → St noB w w' [arC 81 ba l' met'] → law20_TreeWhole.b46 R C (.int .i64 i) w' := by
        intro l' met' w' hI' hF' s'
        unfold law20_TreeWhole.b46
        simp -dsimp [go_sem, wi]
        exact hC _ _ ⟨i + 1, l', met', by simp, by omega, by omega, hI', hF', s'⟩ (by simp [iv]; omega)
      have s5 := s4.alloc #[.int .i64 kd, .int .i64 a, .int .i64 b, .slice Ar ks.length cr] 72
      unfold law20_TreeWhole.b45
      simp -dsimp [go_sem, p1, x1, x2, x3, x4, ho']
      generalize w3.alloc (.cells #[.int .i64 kd, .int .i64 a, .int .i64 b, .slice Ar ks.length cr] 72) = w5 at s5 ⊢
      generalize w3.heap.size = ob at s5 ⊢
      have s5 : St noB w w5 [arC 81 ba l met, boxC ob 72 [.int .i64 kd, .int .i64 a, .int .i64 b, .slice Ar ks.length cr]] := s5
      have y5 := s5.box 1 rfl
      simp [boxAt] at y5
      refine SPL_intro (fun p3 => ?_) (fun p3 => ?_)
      · unfold law20_TreeWhole.b45_1
        simp -dsimp [go_sem, y5]
        refine CALL_of (Leaf_ct s5 (k := 0) rfl hI.met hlb) ?_
        rintro _ w6 ⟨rfl, s6⟩
        exact next _ _ _ (hI.leaf z2 z3) (hF.leaf a b) (s6.take 1)
      · unfold law20_TreeWhole.b45_2
        have s6 := (s5.old (Chg.refl noB _).drew).lit 3 1 0 #[] (by simp) (by simp)
        have y6 := (s6.box 1 rfl).1
        simp only [boxAt] at y6
        obtain ⟨y60, y61, y62, y63, _⟩ := y6
        have y60' : (w5.alloc (.cells #[] 3)).cell? ⟨ob, 0, none⟩ = some (.int .i64 kd) := y60
        have y61' : (w5.alloc (.cells #[] 3)).cell? ⟨ob, 1, none⟩ = some (.int .i64 a) := y61
        have y62' : (w5.alloc (.cells #[] 3)).cell? ⟨ob, 2, none⟩ = some (.int .i64 b) := y62
        have y63' : (w5.alloc (.cells #[] 3)).cell? ⟨ob, 3, none⟩ = some (.slice Ar ks.length cr) := y63
        simp -dsimp [go_sem, y5, y61', y62', y63']
        have hrd : (rSlice rInt).at1 ((w5.drew).alloc (.cells #[] 3)) ((w5.drew).alloc (.cells #[] 3)).heap.size (.slice Ar ks.length cr) ks := rk s6.chg
        have hsz : w5.drew.heap.size = w5.heap.size := rfl
        rw [hsz] at s6
        clear y60 y61 y62 y63 y60' y61' y62' y63'
        have hww : (w5.alloc (.cells #[] 3)).drew = (w5.drew).alloc (.cells #[] 3) := rfl
        rw [hww]
        generalize (w5.drew).alloc (.cells #[] 3) = w6 at s6 hrd ⊢
        generalize w5.heap.size = nb at s6 ⊢
        refine s6.appendRd (r := rInt) (enc := cNdI) 2 rfl uInts iInt rfl (by decide) hrd (fun h _ => h.1) (fun x _ u hu => by simp [cNdI] at hu; subst hu; rfl) (fun _ _ => rfl) (by unfold maxLen; unfold maxBytes at hk8'; omega) (by omega) ?_
        intro ka kc w7 s7
        rw [Nat.zero_add] at s7 ⊢
        have s7 : St noB w w7 [arC 81 ba l met, boxC ob 72 [.int .i64 kd, .int .i64 a, .int .i64 b, .slice Ar ks.length cr], rowC 3 1 ka ks.length kc (intV ks)] := by rw [intV_flat]; exact s7
        have y7 := s7.box 1 rfl
        simp [boxAt] at y7
        simp -dsimp [go_sem, y7]
        refine CALL_of (Join_ct s7 (k := 0) rfl hI.met hlb hk8' fun w' c s' => int_rd s' 2 rfl hki) ?_
        rintro _ w8 ⟨rfl, s8⟩
        exact next _ _ _ (hI.join z2 z3 hki hk8') (hF.join a b ks) (s8.take 1)
    · exact fin _ _ _ _ hI hF hi40 s4
  · unfold law20_TreeWhole.b48
    simp -dsimp [go_sem]
    exact fin _ _ _ _ hI hF hi40 s4
end Go.Proofs.Ytkacbjhiobnbfaa

