/- The tables that the rows list; a world that the rows speak of holds them. -/
import Derived.Test.YtejmmglffmckeaaGreatDoorYO
import Derived.Test.YtejmmglffmckeaaGreatDoorRows
import Derived.Test.YtejmmglffmckeaaGreatDoorTie
import Derived.Test.YtejmmglffmckeaaGreatDoorCards
import Derived.ProofKit
import Derived.Deep.DeepHandedRow
import Derived.Lib.LaidTab
import Derived.Stop.LaidErr
namespace Go.Proofs.YtejmmglffmckeaaGreatDoor.S
open Go.ChangeShapes Go.WideShapes Go.ChangeAt Go.RowKit Go.QfSy

theorem own : ownKnob Tryz.prog.godebug = none := by kernel_rfl
theorem laidOut : laidOutB Tryz.prog = true := by kernel_rfl
def tabs : List Tb := [
  ⟨7, .u8, [0, 1, 28, 2, 29, 14, 24, 3, 30, 22, 20, 15, 25, 17, 4, 8, 31, 27, 13, 23, 21, 19, 16, 7, 26, 12, 18, 6, 11, 5, 10, 9], 308⟩,
  ⟨8, .u8, [0, 1, 56, 2, 57, 49, 28, 3, 61, 58, 42, 50, 38, 29, 17, 4, 62, 47, 59, 36, 45, 43, 51, 22, 53, 39, 33, 30, 24, 18, 12, 5, 63, 55, 48, 27, 60, 41, 37, 16, 46, 35, 44, 21, 52, 32, 23, 11, 54, 26, 40, 15, 34, 20, 31, 10, 25, 14, 19, 9, 13, 8, 7, 6], 309⟩,
  ⟨1, .u64, [1, 10, 100, 1000, 10000, 100000, 1000000, 10000000, 100000000, 1000000000, 10000000000, 100000000000, 1000000000000, 10000000000000, 100000000000000, 1000000000000000, 10000000000000000, 100000000000000000, 1000000000000000000, 10000000000000000000], 279⟩,
  ⟨0, .i64, [7, 11, 13, 17, 19, 23, 29, 31], 215⟩]
theorem gn0 : Tryz.prog.globalNamed "math/bits.deBruijn32tab" = some 7 := by kernel_rfl
theorem gt0 : (Tryz.prog.globals[7]?).map (·.type) = some 308 := by kernel_rfl
theorem gs0 : 7 < Tryz.prog.globals.size := by show Nat.lt _ _; exact Nat.le_of_ble_eq_true (by kernel_rfl)
theorem gc0 : Tryz.prog.cellsOf 308 = 32 := by kernel_rfl
theorem ge0 : Tryz.prog.cellsOf 5 = 1 := by kernel_rfl
theorem gr0 : (((begin Tryz.prog (fun _ _ => 0) default).world.heap[7]?).bind Obj.row?).map (·.2) = some 308 := by kernel_rfl
theorem gn1 : Tryz.prog.globalNamed "math/bits.deBruijn64tab" = some 8 := by kernel_rfl
theorem gt1 : (Tryz.prog.globals[8]?).map (·.type) = some 309 := by kernel_rfl
theorem gs1 : 8 < Tryz.prog.globals.size := by show Nat.lt _ _; exact Nat.le_of_ble_eq_true (by kernel_rfl)
theorem gc1 : Tryz.prog.cellsOf 309 = 64 := by kernel_rfl
theorem ge1 : Tryz.prog.cellsOf 5 = 1 := by kernel_rfl
theorem gr1 : (((begin Tryz.prog (fun _ _ => 0) default).world.heap[8]?).bind Obj.row?).map (·.2) = some 309 := by kernel_rfl
theorem gn2 : Tryz.prog.globalNamed "internal/strconv.uint64pow10" = some 1 := by kernel_rfl
theorem gt2 : (Tryz.prog.globals[1]?).map (·.type) = some 279 := by kernel_rfl
theorem gs2 : 1 < Tryz.prog.globals.size := by show Nat.lt _ _; exact Nat.le_of_ble_eq_true (by kernel_rfl)
theorem gc2 : Tryz.prog.cellsOf 279 = 20 := by kernel_rfl
theorem ge2 : Tryz.prog.cellsOf 226 = 1 := by kernel_rfl
theorem gr2 : (((begin Tryz.prog (fun _ _ => 0) default).world.heap[1]?).bind Obj.row?).map (·.2) = some 279 := by kernel_rfl
theorem gn3 : Tryz.prog.globalNamed "quadform/prime.offsets" = some 0 := by kernel_rfl
theorem gt3 : (Tryz.prog.globals[0]?).map (·.type) = some 215 := by kernel_rfl
theorem gs3 : 0 < Tryz.prog.globals.size := by show Nat.lt _ _; exact Nat.le_of_ble_eq_true (by kernel_rfl)
theorem gc3 : Tryz.prog.cellsOf 215 = 8 := by kernel_rfl
theorem ge3 : Tryz.prog.cellsOf 2 = 1 := by kernel_rfl
theorem gr3 : (((begin Tryz.prog (fun _ _ => 0) default).world.heap[0]?).bind Obj.row?).map (·.2) = some 215 := by kernel_rfl
theorem gl0 {W : World} {rest : List (String × DataW Unit)} (h : laidMet Tryz.prog (("math/bits.deBruijn32tab", Rows.laid_math_bits_deBruijn32tab) :: rest) W) (hS : W.ShapedOpen Tryz.prog) : W.heap[7]? = some (.cells (([0, 1, 28, 2, 29, 14, 24, 3, 30, 22, 20, 15, 25, 17, 4, 8, 31, 27, 13, 23, 21, 19, 16, 7, 26, 12, 18, 6, 11, 5, 10, 9] : List Int).map (Value.int .u8)).toArray 308 (0, 0)) := by
  have ht : Lib.TabIs Tryz.prog W "math/bits.deBruijn32tab" .u8 [0, 1, 28, 2, 29, 14, 24, 3, 30, 22, 20, 15, 25, 17, 4, 8, 31, 27, 13, 23, 21, 19, 16, 7, 26, 12, 18, 6, 11, 5, 10, 9] :=
    Lib.tabIs_of_head gn0 gt0 Tryz.underlying308 Tryz.underlying5 ge0 gc0 h
  obtain ⟨cs, t, h1, h2⟩ := row_of gs0 gr0 hS
  subst h2
  exact tab_block gn0 ht h1
theorem gl1 {W : World} {rest : List (String × DataW Unit)} (h : laidMet Tryz.prog (("math/bits.deBruijn64tab", Rows.laid_math_bits_deBruijn64tab) :: rest) W) (hS : W.ShapedOpen Tryz.prog) : W.heap[8]? = some (.cells (([0, 1, 56, 2, 57, 49, 28, 3, 61, 58, 42, 50, 38, 29, 17, 4, 62, 47, 59, 36, 45, 43, 51, 22, 53, 39, 33, 30, 24, 18, 12, 5, 63, 55, 48, 27, 60, 41, 37, 16, 46, 35, 44, 21, 52, 32, 23, 11, 54, 26, 40, 15, 34, 20, 31, 10, 25, 14, 19, 9, 13, 8, 7, 6] : List Int).map (Value.int .u8)).toArray 309 (0, 0)) := by
  have ht : Lib.TabIs Tryz.prog W "math/bits.deBruijn64tab" .u8 [0, 1, 56, 2, 57, 49, 28, 3, 61, 58, 42, 50, 38, 29, 17, 4, 62, 47, 59, 36, 45, 43, 51, 22, 53, 39, 33, 30, 24, 18, 12, 5, 63, 55, 48, 27, 60, 41, 37, 16, 46, 35, 44, 21, 52, 32, 23, 11, 54, 26, 40, 15, 34, 20, 31, 10, 25, 14, 19, 9, 13, 8, 7, 6] :=
    Lib.tabIs_of_head gn1 gt1 Tryz.underlying309 Tryz.underlying5 ge1 gc1 h
  obtain ⟨cs, t, h1, h2⟩ := row_of gs1 gr1 hS
  subst h2
  exact tab_block gn1 ht h1
theorem gl2 {W : World} {rest : List (String × DataW Unit)} (h : laidMet Tryz.prog (("internal/strconv.uint64pow10", Rows.laid_internal_strconv_uint64pow10) :: rest) W) (hS : W.ShapedOpen Tryz.prog) : W.heap[1]? = some (.cells (([1, 10, 100, 1000, 10000, 100000, 1000000, 10000000, 100000000, 1000000000, 10000000000, 100000000000, 1000000000000, 10000000000000, 100000000000000, 1000000000000000, 10000000000000000, 100000000000000000, 1000000000000000000, 10000000000000000000] : List Int).map (Value.int .u64)).toArray 279 (0, 0)) := by
  have ht : Lib.TabIs Tryz.prog W "internal/strconv.uint64pow10" .u64 [1, 10, 100, 1000, 10000, 100000, 1000000, 10000000, 100000000, 1000000000, 10000000000, 100000000000, 1000000000000, 10000000000000, 100000000000000, 1000000000000000, 10000000000000000, 100000000000000000, 1000000000000000000, 10000000000000000000] :=
    Lib.tabIs_of_head gn2 gt2 Tryz.underlying279 Tryz.underlying226 ge2 gc2 h
  obtain ⟨cs, t, h1, h2⟩ := row_of gs2 gr2 hS
  subst h2
  exact tab_block gn2 ht h1
theorem gl3 {W : World} {rest : List (String × DataW Unit)} (h : laidMet Tryz.prog (("quadform/prime.offsets", Rows.laid_quadform_prime_offsets) :: rest) W) (hS : W.ShapedOpen Tryz.prog) : W.heap[0]? = some (.cells (([7, 11, 13, 17, 19, 23, 29, 31] : List Int).map (Value.int .i64)).toArray 215 (0, 0)) := by
  have ht : Lib.TabIs Tryz.prog W "quadform/prime.offsets" .i64 [7, 11, 13, 17, 19, 23, 29, 31] :=
    Lib.tabIs_of_head gn3 gt3 Tryz.underlying215 Tryz.underlying2 ge3 gc3 h
  obtain ⟨cs, t, h1, h2⟩ := row_of gs3 gr3 hS
  subst h2
  exact tab_block gn3 ht h1
theorem tabs_of {W : World} (h : laidMet Tryz.prog [("math/bits.deBruijn32tab", Rows.laid_math_bits_deBruijn32tab), ("math/bits.deBruijn64tab", Rows.laid_math_bits_deBruijn64tab), ("internal/strconv.uint64pow10", Rows.laid_internal_strconv_uint64pow10), ("quadform/prime.offsets", Rows.laid_quadform_prime_offsets)] W) (hS : W.ShapedOpen Tryz.prog) : TabW tabs W := by
  intro t ht
  simp only [tabs, List.mem_cons, List.not_mem_nil, or_false] at ht
  rcases ht with rfl | rfl | rfl | rfl
  · exact gl0 h hS
  · exact gl1 (laidMet.tail h) hS
  · exact gl2 (laidMet.tail (laidMet.tail h)) hS
  · exact gl3 (laidMet.tail (laidMet.tail (laidMet.tail h))) hS
noncomputable def laidWorld (os : Os) : World := (layAt 0 Rows.laid_quadform_prime_offsets (layAt 1 Rows.laid_internal_strconv_uint64pow10 (layAt 8 Rows.laid_math_bits_deBruijn64tab (layAt 7 Rows.laid_math_bits_deBruijn32tab (World.holding Tryz.prog os ⟨#[], #[], []⟩)))))
end Go.Proofs.YtejmmglffmckeaaGreatDoor.S
