/-
  This seat's types.
-/
import Derived.Test.YtmhebgebfjnfjaaT02Ids
import Derived.Test.YtmhebgebfjnfjaaPxSt
namespace Go.Proofs.Ytmhebgebfjnfjaa
open Go.Px Go.RowKit
theorem uInt : Try.prog.underlying 3 = some (.int .i64) := Try.underlying3
theorem uStr : Try.prog.underlying 9 = some .string := Try.underlying9
theorem uInts : Try.prog.underlying 30 = some (.slice 3) := Try.underlying30
theorem uStrs : Try.prog.underlying 33 = some (.slice 9) := Try.underlying33
theorem uTerms : Try.prog.underlying 32 = some (.slice 56) := Try.underlying32
theorem uProds : Try.prog.underlying 34 = some (.slice 59) := Try.underlying34
theorem iInt : (Try.prog.info? 3).map (fun i => (i.zero, i.size, i.bytes)) = some (some (.int .i64 0), 1, 8) := by kernel_rfl
theorem iStr : (Try.prog.info? 9).map (fun i => (i.zero, i.size, i.bytes)) = some (some (.string ⟨#[]⟩), 1, 16) := by kernel_rfl
theorem iTerm : (Try.prog.info? 56).map (fun i => (i.zero, i.size, i.bytes)) = some (some (.agg #[.string ⟨#[]⟩, .int .i64 0]), 2, 24) := by kernel_rfl
theorem iProd : (Try.prog.info? 59).map (fun i => (i.zero, i.size, i.bytes)) = some (some (.agg #[.int .i64 0, .slice none 0 0, .int .i64 0]), 3, 40) := by kernel_rfl
theorem mStr : MapTy Try.prog kStr 41 9 3 where
  tm := Try.underlying41
  te := Try.underlying3
  keyed := Maps.string_keyed Try.underlying9
  key a ha := WideMaps.keyOf_string_mk Try.underlying9 ha
  zero w := by simp [go_sem]
theorem mInt : MapTy Try.prog kInt 87 3 3 where
  tm := Try.underlying87
  te := Try.underlying3
  keyed := Maps.int_keyed Try.underlying3
  key a ha := Maps.keyOf_int_mk Try.underlying3 (by
    have hm : IntKind.i64.min = -9223372036854775808 := by decide
    obtain ⟨h1, h2⟩ := ha
    simp [Lit.wf, hm]
    omega)
  zero w := by simp [go_sem]
theorem mkStr (w : World) : (Instr.makeMap 41 none).run Try.prog w = .ok (.map (some w.heap.size)) (w.alloc (.map #[] 0)) := by
  simp [Instr.makeMap, run_underlying Try.underlying41, go_sem]
theorem mkInt (w : World) : (Instr.makeMap 87 none).run Try.prog w = .ok (.map (some w.heap.size)) (w.alloc (.map #[] 0)) := by
  simp [Instr.makeMap, run_underlying Try.underlying87, go_sem]
theorem bTerm2 (s : ByteArray) (x : Int) (w : World) : (Instr.build 56 #[(0, .string s), (1, .int .i64 x)]).run Try.prog w = .ok (.agg #[.string s, .int .i64 x]) w := by simp [go_sem]
theorem bTerm1 (s : ByteArray) (w : World) : (Instr.build 56 #[(0, .string s)]).run Try.prog w = .ok (.agg #[.string s, .int .i64 0]) w := by simp [go_sem]
theorem bProd02 (x y : Int) (w : World) : (Instr.build 59 #[(0, .int .i64 x), (2, .int .i64 y)]).run Try.prog w = .ok (.agg #[.int .i64 x, .slice none 0 0, .int .i64 y]) w := by simp [go_sem]
theorem bGram02 (a b : Option Addr) (n c m d : Nat) (w : World) : (Instr.build 36 #[(0, .slice a n c), (2, .slice b m d)]).run Try.prog w = .ok (.agg #[.slice a n c, .slice none 0 0, .slice b m d, .int .i64 0, .slice none 0 0]) w := by simp [go_sem]
theorem bInts2 (x y : Int) (w : World) : (Instr.buildSlice 30 2 #[(0, .int .i64 x), (1, .int .i64 y)]).run Try.prog w = .ok (.slice (some ⟨w.heap.size, 0, none⟩) 2 2) (w.alloc (.cells #[.int .i64 x, .int .i64 y] 3)) := by simp [go_sem]
theorem bBytes2 (x y : Int) (w : World) : (Instr.buildSlice 51 2 #[(0, .int .u8 x), (1, .int .u8 y)]).run Try.prog w = .ok (.slice (some ⟨w.heap.size, 0, none⟩) 2 2) (w.alloc (.cells #[.int .u8 x, .int .u8 y] 5)) := by simp [go_sem]
attribute [go_sem ↓] bBytes2 bInts2 bTerm2 bTerm1 bProd02 bGram02
end Go.Proofs.Ytmhebgebfjnfjaa
