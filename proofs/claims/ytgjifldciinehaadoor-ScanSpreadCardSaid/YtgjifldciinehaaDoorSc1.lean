/-
  The bytes' functions of scan and of the document's answer.
-/
import Derived.Test.YtgjifldciinehaaDoorT03All
import Derived.Test.YtgjifldciinehaaDoorScSpec
import Derived.Lib.Bytealg
import Derived.Laws.StandIn
namespace Go.Proofs.YtgjifldciinehaaDoor
open Go.Px Go.Px.Scan Go.RowKit
set_option maxHeartbeats 1000000
set_option linter.unusedSimpArgs false

theorem bytes_of {p : Nat → Prop} (h : ∀ c : Fin 256, p c.val) (c : Nat) (hc : c < 256) : p c := h ⟨c, hc⟩

theorem or32 (c : Nat) (hc : c < 256) : (decide (97 ≤ bits BinOp.or IntKind.u8 (c : Int) 32) && decide (bits BinOp.or IntKind.u8 (c : Int) 32 ≤ 122)) = letterN c :=
  bytes_of (p := fun c => (decide (97 ≤ bits BinOp.or IntKind.u8 (c : Int) 32) && decide (bits BinOp.or IntKind.u8 (c : Int) 32 ≤ 122)) = letterN c) (by decide +kernel) c hc

theorem ref_letter_ct (c : Nat) (w : World) : Ct Tryd.prog ref03_letter.id #[.int .u8 c] w fun v w' => v = .bool (letterN c) ∧ w = w' := by
  refine ref03_letter.ct fun R hR => ?_
  unfold ref03_letter.run ref03_letter.b1
  (repeat' (first | (refine SPL_intro (fun h => ?_) (fun h => ?_) <;> (try simp at h)) | simp [go_sem])) <;> exact hR _ _ ⟨congrArg Value.bool (by rw [Bool.eq_iff_iff]; simp [letterN]; try omega), rfl⟩

theorem ref_inner_ct (c : Nat) (w : World) : Ct Tryd.prog ref03_inner.id #[.int .u8 c] w fun v w' => v = .bool (innerN c) ∧ w = w' := by
  refine ref03_inner.ct fun R hR => ?_
  unfold ref03_inner.run ref03_inner.b1
  refine CALL_of (ref_letter_ct c w) ?_
  rintro _ _ ⟨rfl, rfl⟩
  (refine SPL_intro (fun h => ?_) (fun h => ?_) <;> (try simp at h))
  · exact hR _ _ ⟨by simp [innerN, h], rfl⟩
  have hl := h
  (repeat' (first | (refine SPL_intro (fun h => ?_) (fun h => ?_) <;> (try simp at h)) | simp [go_sem])) <;> exact hR _ _ ⟨congrArg Value.bool (by rw [Bool.eq_iff_iff]; simp [innerN, hl]; try omega), rfl⟩

theorem IndexByteString_call {X : Pan} {K : Value → World → Prop} (s : ByteArray) (c : Int) (w : World) (h : K (.int .i64 (Lib.indexByte s.data.toList c.toNat.toUInt8)) w) :
    CALL Tryd.prog X internal_bytealg_IndexByteString.id #[.string s, .int .u8 c] w K := by
  unfold CALL RUNN
  rw [run_callFunc_extern Tryd.func47 (by kernel_rfl) (by kernel_rfl) (by kernel_rfl) (e := Extern.BytealgIndexByte.indexByte) (by kernel_rfl), Lib.run_indexByteString]
  exact h

theorem sl_IndexByte_ct (s : ByteArray) (c : Int) (w : World) : Ct Tryd.prog internal_stringslite_IndexByte.id #[.string s, .int .u8 c] w fun v w' => v = .int .i64 (Lib.indexByte s.data.toList c.toNat.toUInt8) ∧ w = w' := by
  refine internal_stringslite_IndexByte.ct fun R hR => ?_
  unfold internal_stringslite_IndexByte.run internal_stringslite_IndexByte.b1
  refine IndexByteString_call s c w ?_
  exact hR _ _ ⟨rfl, rfl⟩

theorem IndexByte_ct (s : ByteArray) (c : Int) (w : World) : Ct Tryd.prog strings_IndexByte.id #[.string s, .int .u8 c] w fun v w' => v = .int .i64 (Lib.indexByte s.data.toList c.toNat.toUInt8) ∧ w = w' := by
  refine strings_IndexByte.ct fun R hR => ?_
  unfold strings_IndexByte.run strings_IndexByte.b1
  refine CALL_of (sl_IndexByte_ct s c w) ?_
  rintro _ _ ⟨rfl, rfl⟩
  exact hR _ _ ⟨rfl, rfl⟩

theorem letter_ct (c : Nat) (w : World) (hc : c < 256): Ct Tryd.prog scan_letter.id #[.int .u8 c] w fun v w' => v = .bool (letterN c) ∧ w = w' := by
  refine scan_letter.ct fun R hR => ?_
  unfold scan_letter.run scan_letter.b1
  have h32 := or32 c hc
  (repeat' (first | (refine SPL_intro (fun h => ?_) (fun h => ?_) <;> (try simp at h)) | simp [go_sem]))
  · exact hR _ _ ⟨by rw [← h32]; simp [h], rfl⟩
  · exact hR _ _ ⟨by rw [← h32]; simp; intro h2; omega, rfl⟩

theorem inner_ct (c : Nat) (w : World) (hc : c < 256) : Ct Tryd.prog scan_inner.id #[.int .u8 c] w fun v w' => v = .bool (innerN c) ∧ w = w' := by
  refine scan_inner.ct fun R hR => ?_
  unfold scan_inner.run scan_inner.b1
  refine CALL_of (letter_ct c w hc) ?_
  rintro _ _ ⟨rfl, rfl⟩
  (refine SPL_intro (fun h => ?_) (fun h => ?_) <;> (try simp at h))
  · exact hR _ _ ⟨by simp [innerN, h], rfl⟩
  have hl := h
  (repeat' (first | (refine SPL_intro (fun h => ?_) (fun h => ?_) <;> (try simp at h)) | simp [go_sem])) <;> exact hR _ _ ⟨congrArg Value.bool (by rw [Bool.eq_iff_iff]; simp [innerN, hl]; try omega), rfl⟩

theorem plain_ct (c : Nat) (w : World) : Ct Tryd.prog scan_plain.id #[.int .u8 c] w fun v w' => v = .bool (plainN c) ∧ w = w' := by
  refine scan_plain.ct fun R hR => ?_
  unfold scan_plain.run scan_plain.b1
  (repeat' (first | (refine SPL_intro (fun h => ?_) (fun h => ?_) <;> (try simp at h)) | simp [go_sem])) <;> exact hR _ _ ⟨congrArg Value.bool (by rw [Bool.eq_iff_iff]; simp [plainN]; try omega), rfl⟩

theorem quote_ct (c : Nat) (w : World) : Ct Tryd.prog scan_scanner_next_1.id #[.int .u8 c] w fun v w' => v = .bool (quoteN c) ∧ w = w' := by
  refine scan_scanner_next_1.ct fun R hR => ?_
  unfold scan_scanner_next_1.run scan_scanner_next_1.b1
  simp [go_sem]
  refine hR _ _ ⟨?_, rfl⟩
  simp [quoteN]
  rw [Bool.eq_iff_iff]; simp; omega
end Go.Proofs.YtgjifldciinehaaDoor
