/-
  Reading the table scan.orders out of a row's condition; the rows of this seat in general.
-/
import Derived.Test.YtgjifldciinehaaDoorLw3
import Derived.Test.YtgjifldciinehaaDoorPxOpen
import Derived.Test.YtgjifldciinehaaDoorCards
import Derived.Test.YtgjifldciinehaaDoorTie
import Derived.WalkKit
import Derived.ProofKit
import Derived.OpenShut
import Derived.Deep.DeepHandedRow
import Derived.Lib.LaidTab
import Derived.Deep.DeepWitnessRowRef
namespace Go.Proofs.YtgjifldciinehaaDoor
open Go.Px Go.Px.Scan Go.ChangeShapes Go.WideShapes Go.ChangeAt Go.RowKit

theorem own : ownKnob Tryd.prog.godebug = none := by kernel_rfl
theorem gTab : Tryd.prog.globalNamed "presage/scan.orders" = some 0 := by kernel_rfl
theorem gTabType : (Tryd.prog.globals[0]?).map (·.type) = some 28 := by kernel_rfl
theorem cells9 : Tryd.prog.cellsOf 9 = 1 := by kernel_rfl

theorem opens9 : Opens Tryd.prog 9 rStr := opens_str Tryd.underlying9 cells9 (by kernel_rfl)
theorem opens3 : Opens Tryd.prog 3 rInt := opens_int Tryd.underlying3 (by kernel_rfl) (by kernel_rfl)
theorem strs_inj : ∀ {a b : List ByteArray}, (strs a : List (DataW Unit)) = strs b → a = b := by
  intro a
  induction a with
  | nil => intro b h; cases b with
    | nil => rfl
    | cons y b => simp [strs] at h
  | cons x a ih => intro b h; cases b with
    | nil => simp [strs] at h
    | cons y b =>
      simp only [strs, List.map_cons, List.cons.injEq] at h
      obtain ⟨h1, h2⟩ := h
      have e : x = y := by
        injection h1 with h1
        injection h1 with h1
        cases x; cases y
        simp at h1
        cases h1; rfl
      rw [e, ih h2]

theorem laid_strs : (Rows.laid_presage_scan_orders : DataW Unit) = .slice (strs ordersL) (strs []) := rfl

theorem ord_of_laid {W : World} (h : laidMetH Tryd.prog [("presage/scan.orders", Rows.laid_presage_scan_orders)] W) : Ord W W.heap.size := by
  have h' : laidMet Tryd.prog [("presage/scan.orders", Rows.laid_presage_scan_orders)] W := h
  obtain ⟨ps, ⟨g, t, cs, fuel, p, q, hg, ht, hvar, hd, _, _⟩, _⟩ := h'
  obtain rfl := Option.some.inj (gTab.symm.trans hg)
  obtain rfl := Option.some.inj (gTabType.symm.trans ht)
  rcases open_strings Tryd.underlying28 Tryd.underlying9 cells9 hd with ⟨_, h0⟩ | ⟨a, len, cap, ss, hcs, _, hl, hm, hlen, hx, hcell, hsz⟩
  · cases h0
  · injection hx with hx _
    rw [laid_strs] at hx
    injection hx with h1 h2
    have e1 := strs_inj h1
    have e2 := strs_inj h2
    have hss : ss = ordersL := by
      have := List.take_append_drop len ss
      rw [← e1, ← e2] at this
      rw [← this]; simp
    subst hss
    have hl7 : len = 7 := by
      have h3 := congrArg List.length e1
      have h4 := congrArg List.length e2
      simp [ordersL] at h3 h4 hlen
      omega
    subst hl7
    have hc0 : W.cell? ⟨0, 0, none⟩ = some (.slice (some a) 7 cap) := by
      rw [World.var?_cell hg hvar 0, ← Array.getElem?_toList, hcs]; rfl
    have key : ∀ i, i < 7 → W.cell? (a.add i) = some (.string (ordersL.getD i ByteArray.empty)) := fun i hi => hcell i (by simpa [ordersL] using hi)
    have ha : a = ⟨a.block, a.off, none⟩ := by
      have h0 := key 0 (by omega)
      simp only [Addr.add, if_pos] at h0
      unfold World.cell? at h0
      split at h0
      · split at h0
        · cases h0
        · rename_i hsp
          cases a with
          | mk b o s => cases s with
            | none => rfl
            | some s => simp at hsp
      · cases h0
    have hlt : a.block < W.heap.size := World.block_lt_of_cell? W _ (key 0 (by omega))
    refine ⟨Nat.lt_of_le_of_lt (Nat.zero_le _) hlt, some a, cap, hc0, ?_⟩
    refine ⟨some a, cap, rfl, hl, hm, trivial, fun _ => ⟨a.block, a.off, by rw [← ha], hlt, fun i x hi => ⟨[.string x], ⟨rfl, ?_⟩, fun j u hj => ?_⟩⟩⟩
    · exact hsz x (List.mem_of_getElem? hi)
    · have hi7 : i < 7 := by have := (List.getElem?_eq_some_iff.1 hi).1; simpa [ordersL] using this
      have h1 := key i hi7
      rw [ha, Addr.add_lit] at h1
      have hj0 : j = 0 := by have := (List.getElem?_eq_some_iff.1 hj).1; simp at this; omega
      subst hj0
      simp at hj
      subst hj
      simp only [List.getD_eq_getElem?_getD, hi, Option.getD_some] at h1
      simpa [rStr] using h1

/-- A world for the witness: the table lies behind everything. -/
noncomputable def laidWorld (os : Os) : World :=
  let W := World.holding Tryd.prog os ⟨#[], #[], []⟩
  let W1 := W.alloc (.cells #[.string ⟨#[37, 108, 101, 102, 116]⟩, .string ⟨#[37, 110, 111, 110, 97, 115, 115, 111, 99]⟩, .string ⟨#[37, 110, 111, 110, 101]⟩, .string ⟨#[37, 112, 114, 101, 99]⟩, .string ⟨#[37, 114, 105, 103, 104, 116]⟩, .string ⟨#[37, 115, 116, 97, 114, 116]⟩, .string ⟨#[37, 116, 111, 107, 101, 110]⟩] 9)
  { W1 with heap := W1.heap.modify 0 fun
      | .cells _ t frozen => .cells #[.slice (some ⟨W.heap.size, 0, none⟩) 7 7] t frozen
      | o => o }

theorem laid_met (os : Os) (args : Array Value) : laidMet Tryd.prog [("presage/scan.orders", Rows.laid_presage_scan_orders)] ((laidWorld os).forCall (fun _ _ => 0) ⟨#[], args, []⟩).memory :=
  laidMet_of_run' 8 (by kernel_rfl) (by kernel_rfl)
end Go.Proofs.YtgjifldciinehaaDoor
