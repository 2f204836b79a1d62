/-
  The law GramFull.
-/
import Derived.Test.YtmhebgebfjnfjaaGb4
namespace Go.Px.Scan
open Go.Px
/-- The names that it makes. -/
def nmU (i : Nat) : UInt8 × UInt8 := (UInt8.ofNat (97 + i / 26), UInt8.ofNat (97 + i % 26))
def nm (i : Nat) : ByteArray := ⟨#[110, (nmU i).1, (nmU i).2]⟩
theorem nm_inj : ∀ i : Fin 64, ∀ j : Fin 64, nmU i.val = nmU j.val → i = j := by decide +kernel
theorem nm_inner : ∀ i : Fin 64, innerN (nmU i.val).1.toNat = true ∧ innerN (nmU i.val).2.toNat = true := by decide +kernel
theorem nm_name {i : Nat} (hi : i < 64) : NameP (nm i) := by
  have h := nm_inner ⟨i, hi⟩
  refine ⟨by simp [nm, ByteArray.size], by simp [nm, ByteArray.size], (show (letterN 110 || decide (110 = 95)) = true from rfl), fun j hj => ?_⟩
  have hj' : j < 3 := by simpa [nm, ByteArray.size] using hj
  rcases j with _ | _ | _ | j
  · show innerN (bt (nm i) 0) = true
    have : bt (nm i) 0 = 110 := rfl
    rw [this]; decide
  · exact h.1
  · exact h.2
  · omega
theorem nm_ne {i j : Nat} (hi : i < 64) (hj : j < 64) (h : nm i = nm j) : i = j := by
  have h1 : nmU i = nmU j := by
    have h2 : (nm i).data.toList = (nm j).data.toList := by rw [h]
    simp [nm] at h2
    exact Prod.ext h2.1 h2.2
  have := nm_inj ⟨i, hi⟩ ⟨j, hj⟩ h1
  simpa using this

def Sf (n i : Nat) : BS := ⟨(List.range (i - (n + 1))).map fun j => (nm (n + 1 + j), 0), (List.range (min i (n + 1))).map nm, [], [], 0⟩
def Sr (n k : Nat) : BS := { Sf n 64 with rules := (List.range k).map fun j : Nat => (-1 - ((j % (n + 1) : Nat) : Int), [], 0) }
end Go.Px.Scan
namespace Go.Proofs.Ytmhebgebfjnfjaa
open Go.Px Go.Px.Scan Go.RowKit
set_option maxHeartbeats 1000000
set_option linter.unusedSimpArgs false
set_option linter.unusedVariables false
set_option maxRecDepth 100000
attribute [-go_sem] Builtin.append_

theorem nonA_f {n i : Nat} (hi : i ≤ n) (hn : n < 64) : nonA (Sf n i) (nm i) = (-((i : Int) + 1), 0, Sf n (i + 1)) := by
  have hno : nm i ∉ (Sf n i).nons := by
    intro h
    obtain ⟨j, hj, e⟩ := List.mem_map.1 h
    simp at hj
    have := nm_ne (by omega) (by omega) e
    omega
  have hl : (Sf n i).nons.length = i := by simp [Sf]; omega
  have ht : (Sf n i).terms.length = 0 := by simp [Sf]; omega
  unfold nonA
  rw [if_neg (by simp [nmB_iff.2 (nm_name (show i < 64 by omega))]), if_neg (by simp [posH_zero.2 hno]), if_neg (by omega), hl]
  refine Prod.ext rfl (Prod.ext rfl ?_)
  show BS.mk _ _ _ _ _ = BS.mk _ _ _ _ _
  congr 1
  · show (List.range (i - (n + 1))).map _ = (List.range (i + 1 - (n + 1))).map _
    rw [show i - (n + 1) = 0 by omega, show i + 1 - (n + 1) = 0 by omega]
  · show (List.range (min i (n + 1))).map nm ++ [nm i] = (List.range (min (i + 1) (n + 1))).map nm
    rw [show min i (n + 1) = i by omega, show min (i + 1) (n + 1) = i + 1 by omega, List.range_succ, List.map_append]; rfl

theorem termA_f {n i : Nat} (hi : n < i) (hi' : i < 64) : termA (Sf n i) (nm i) = (((i - n : Nat) : Int), 0, Sf n (i + 1)) := by
  have hl : (Sf n i).nons.length = n + 1 := by simp [Sf]; omega
  have ht : (Sf n i).terms.length = i - (n + 1) := by simp [Sf]
  have hno : nm i ∉ (Sf n i).terms.map (·.1) := by
    intro h
    simp only [Sf, List.map_map, List.mem_map, List.mem_range, Function.comp] at h
    obtain ⟨j, hj, e⟩ := h
    have := nm_ne (by omega) (by omega) e
    omega
  unfold termA
  rw [if_neg (by simp [tmB_iff.2 (nm_name hi').term]), if_neg (by simp [posH_zero.2 hno]), if_neg (by omega), ht]
  refine Prod.ext (by show ((i - (n + 1) : Nat) : Int) + 1 = _; omega) (Prod.ext rfl ?_)
  show BS.mk _ _ _ _ _ = BS.mk _ _ _ _ _
  congr 1
  · show ((List.range (i - (n + 1))).map fun j => (nm (n + 1 + j), (0 : Int))) ++ [(nm i, 0)] = (List.range (i + 1 - (n + 1))).map fun j => (nm (n + 1 + j), (0 : Int))
    rw [show i + 1 - (n + 1) = (i - (n + 1)) + 1 by omega, List.range_succ, List.map_append]
    simp; congr 1; omega
  · show (List.range (min i (n + 1))).map nm = (List.range (min (i + 1) (n + 1))).map nm
    rw [show min i (n + 1) = n + 1 by omega, show min (i + 1) (n + 1) = n + 1 by omega]

def sMore : ByteArray := ⟨#[109, 111, 114, 101]⟩
theorem more_name : NameP sMore := by
  refine ⟨by decide, by decide, by decide, fun j hj => ?_⟩
  have hj' : j < 4 := by simpa [sMore, ByteArray.size] using hj
  rcases j with _ | _ | _ | _ | j <;> first | decide | omega
theorem nm_more {i : Nat} (h : nm i = sMore) : False := by
  have h2 : (nm i).data.toList = sMore.data.toList := by rw [h]
  simp [nm, sMore] at h2
theorem sz64 {n : Nat} (hn : n < 64) : (Sf n 64).terms.length + (Sf n 64).nons.length = 64 := by simp [Sf]; omega
theorem non_more {n : Nat} (hn : n < 64) : nonA (Sf n 64) sMore = (0, 11, Sf n 64) := by
  have hno : sMore ∉ (Sf n 64).nons := by
    intro h
    obtain ⟨j, hj, e⟩ := List.mem_map.1 h
    exact nm_more e
  unfold nonA
  rw [if_neg (by simp [nmB_iff.2 more_name]), if_neg (by simp [posH_zero.2 hno]), if_pos (by rw [sz64 hn]; exact Nat.le_refl _)]
theorem term_more {n : Nat} (hn : n < 64) : termA (Sf n 64) sMore = (0, 11, Sf n 64) := by
  have hno : sMore ∉ (Sf n 64).terms.map (·.1) := by
    intro h
    simp only [Sf, List.map_map, List.mem_map, List.mem_range, Function.comp] at h
    obtain ⟨j, hj, e⟩ := h
    exact nm_more e
  unfold termA
  rw [if_neg (by simp [tmB_iff.2 more_name.term]), if_neg (by simp [posH_zero.2 hno]), if_pos (by rw [sz64 hn]; exact Nat.le_refl _)]
theorem non_naa {n : Nat} (hn : n < 64) : nonA (Sf n 64) ⟨#[110, 97, 97]⟩ = (-1, 0, Sf n 64) := by
  have h0 : (⟨#[110, 97, 97]⟩ : ByteArray) = nm 0 := by decide
  have hp : posH (Sf n 64).nons (nm 0) = 1 := by
    have : (Sf n 64).nons = nm 0 :: ((List.range n).map fun j => nm (j + 1)) := by
      simp only [Sf]
      rw [show min 64 (n + 1) = n + 1 by omega, List.range_succ_eq_map]
      simp
    rw [this]
    unfold posH posN
    simp
  unfold nonA
  rw [h0, if_neg (by simp [nmB_iff.2 (nm_name (show 0 < 64 by omega))]), if_pos (by rw [hp]; decide), hp]

theorem rule_f {n k : Nat} (hn : n < 64) (hk : k < 96) : ruleA (Sr n k) (-1 - ((k % (n + 1) : Nat) : Int)) [] = ((k : Int), 0, Sr n (k + 1)) := by
  have hl : (Sr n k).nons.length = n + 1 := by simp [Sr, Sf]; omega
  have hr : (Sr n k).rules.length = k := by simp [Sr]
  have hm := Nat.mod_lt k (show 0 < n + 1 by omega)
  unfold ruleA
  have q1 := Int.emod_lt_of_pos (k : Int) (show (0 : Int) < (n : Int) + 1 by omega)
  have q2 := Int.emod_nonneg (k : Int) (show (n : Int) + 1 ≠ 0 by omega)
  rw [if_neg (by simp [isN, hl]; omega), if_neg (by omega), hr]
  refine Prod.ext rfl (Prod.ext rfl ?_)
  show BS.mk _ _ _ _ _ = BS.mk _ _ _ _ _
  congr 1
  show ((List.range k).map _) ++ [_] = (List.range (k + 1)).map _
  rw [List.range_succ, List.map_append]; rfl
theorem rule_over {n : Nat} (hn : n < 64) : ruleA (Sr n 96) (-1) [] = (0, 11, Sr n 96) := by
  have hl : (Sr n 96).nons.length = n + 1 := by simp [Sr, Sf]; omega
  unfold ruleA
  rw [if_neg (by simp [isN, hl]; omega), if_pos (by simp [Sr])]
theorem Sr_zero (n : Nat) : Sr n 0 = Sf n 64 := rfl
end Go.Proofs.Ytmhebgebfjnfjaa
