/-
  NARROWER THAN 'FOR EVERY INPUT', by the rows' own cells (each row's printed sentence says how): SymbolValid: laid · SymbolOf: laid · SymbolInvariant: laid · SymbolExcess: laid · SymbolScale: laid · SymbolSum: laid · SymbolSums: laid · SymbolForms: laid · SymbolCompare: laid · SymbolFormat: laid · SymbolParse: laid.
  DERIVED. THE GIVEN ROWS OF THIS SEAT. 11 by the template 'for every input the law returns true; each argument reads behind the call as it read before'; 0 by the template 'total and deterministic' (their statements: YtejmmglffmckeaaGreatDoorTotals.lean).
  GIVEN WITH THE SEED: the statements are not yours to turn. If you find one false, say at which input.
  Laid BY PROGRAM, IN A SANDBOX (cutbox-rows.mjs): the forced cells as the released guide's own fill.sh prints them over the translation dc735d807ea9c3b2… (all of the seat's roots in one cut). By AI agents, Wed Nov 11 2026. No macro, syntax, notation, axiom, sorry.
-/
import Derived.Test.YtejmmglffmckeaaGreatDoorChecked
import GoSem.PinnedTables
import GoSem.Claim
import GoSem.ClaimJoined
import GoSem.ClaimMapViews
import Derived.JoinedTies
import Derived.KernelRfl
namespace Go.Proofs.YtejmmglffmckeaaGreatDoor
/- THE CELL 'sum', in the pinned program and in every row, IS THE sha256 OF THE DUMP (.gsa) THAT YtejmmglffmckeaaGreatDoorProg.lean LOADS. Nothing in Lean hashes anything: it is a label: what it is worth is what the hold of that sum in a sandbox is worth. -/
noncomputable def Tryz.pinned : Pinned := { name := "ytejmmglffmckeaagreatdoor", sum := "dc735d807ea9c3b226b27dee2c2f6c753194a824029db42ab8d8f13a2fe0e923", checked := Tryz.checked }
namespace Rows
def none {H : Type} : Left H := { results := [], args := [] }

/- WHAT THE LISTED PACKAGE-LEVEL VARIABLES READ AS WHEN THE CALL BEGINS. Each datum BY PROGRAM (the guide's laid-datum.mjs) off the statement by which the dump's own 'gosem.cut.vars' lays the variable. In a bare row this is a premise. The card (YtejmmglffmckeaaGreatDoorCards.lean) ties it to the program's text. -/
def laid_math_bits_deBruijn32tab {H : Type} : DataW H := .agg [.lit (.int .u8 0), .lit (.int .u8 1), .lit (.int .u8 28), .lit (.int .u8 2), .lit (.int .u8 29), .lit (.int .u8 14), .lit (.int .u8 24), .lit (.int .u8 3), .lit (.int .u8 30), .lit (.int .u8 22), .lit (.int .u8 20), .lit (.int .u8 15), .lit (.int .u8 25), .lit (.int .u8 17), .lit (.int .u8 4), .lit (.int .u8 8), .lit (.int .u8 31), .lit (.int .u8 27), .lit (.int .u8 13), .lit (.int .u8 23), .lit (.int .u8 21), .lit (.int .u8 19), .lit (.int .u8 16), .lit (.int .u8 7), .lit (.int .u8 26), .lit (.int .u8 12), .lit (.int .u8 18), .lit (.int .u8 6), .lit (.int .u8 11), .lit (.int .u8 5), .lit (.int .u8 10), .lit (.int .u8 9)]
def laid_math_bits_deBruijn64tab {H : Type} : DataW H := .agg [.lit (.int .u8 0), .lit (.int .u8 1), .lit (.int .u8 56), .lit (.int .u8 2), .lit (.int .u8 57), .lit (.int .u8 49), .lit (.int .u8 28), .lit (.int .u8 3), .lit (.int .u8 61), .lit (.int .u8 58), .lit (.int .u8 42), .lit (.int .u8 50), .lit (.int .u8 38), .lit (.int .u8 29), .lit (.int .u8 17), .lit (.int .u8 4), .lit (.int .u8 62), .lit (.int .u8 47), .lit (.int .u8 59), .lit (.int .u8 36), .lit (.int .u8 45), .lit (.int .u8 43), .lit (.int .u8 51), .lit (.int .u8 22), .lit (.int .u8 53), .lit (.int .u8 39), .lit (.int .u8 33), .lit (.int .u8 30), .lit (.int .u8 24), .lit (.int .u8 18), .lit (.int .u8 12), .lit (.int .u8 5), .lit (.int .u8 63), .lit (.int .u8 55), .lit (.int .u8 48), .lit (.int .u8 27), .lit (.int .u8 60), .lit (.int .u8 41), .lit (.int .u8 37), .lit (.int .u8 16), .lit (.int .u8 46), .lit (.int .u8 35), .lit (.int .u8 44), .lit (.int .u8 21), .lit (.int .u8 52), .lit (.int .u8 32), .lit (.int .u8 23), .lit (.int .u8 11), .lit (.int .u8 54), .lit (.int .u8 26), .lit (.int .u8 40), .lit (.int .u8 15), .lit (.int .u8 34), .lit (.int .u8 20), .lit (.int .u8 31), .lit (.int .u8 10), .lit (.int .u8 25), .lit (.int .u8 14), .lit (.int .u8 19), .lit (.int .u8 9), .lit (.int .u8 13), .lit (.int .u8 8), .lit (.int .u8 7), .lit (.int .u8 6)]
def laid_internal_strconv_uint64pow10 {H : Type} : DataW H := .agg [.lit (.int .u64 1), .lit (.int .u64 10), .lit (.int .u64 100), .lit (.int .u64 1000), .lit (.int .u64 10000), .lit (.int .u64 100000), .lit (.int .u64 1000000), .lit (.int .u64 10000000), .lit (.int .u64 100000000), .lit (.int .u64 1000000000), .lit (.int .u64 10000000000), .lit (.int .u64 100000000000), .lit (.int .u64 1000000000000), .lit (.int .u64 10000000000000), .lit (.int .u64 100000000000000), .lit (.int .u64 1000000000000000), .lit (.int .u64 10000000000000000), .lit (.int .u64 100000000000000000), .lit (.int .u64 1000000000000000000), .lit (.int .u64 10000000000000000000)]
def laid_quadform_prime_offsets {H : Type} : DataW H := .agg [.lit (.int .i64 7), .lit (.int .i64 11), .lit (.int .i64 13), .lit (.int .i64 17), .lit (.int .i64 19), .lit (.int .i64 23), .lit (.int .i64 29), .lit (.int .i64 31)]
def laid_unicode_utf8_acceptRanges {H : Type} : DataW H := .agg [.agg [.lit (.int .u8 128), .lit (.int .u8 191)], .agg [.lit (.int .u8 160), .lit (.int .u8 191)], .agg [.lit (.int .u8 128), .lit (.int .u8 159)], .agg [.lit (.int .u8 144), .lit (.int .u8 191)], .agg [.lit (.int .u8 128), .lit (.int .u8 143)], .agg [.lit (.int .u8 0), .lit (.int .u8 0)], .agg [.lit (.int .u8 0), .lit (.int .u8 0)], .agg [.lit (.int .u8 0), .lit (.int .u8 0)], .agg [.lit (.int .u8 0), .lit (.int .u8 0)], .agg [.lit (.int .u8 0), .lit (.int .u8 0)], .agg [.lit (.int .u8 0), .lit (.int .u8 0)], .agg [.lit (.int .u8 0), .lit (.int .u8 0)], .agg [.lit (.int .u8 0), .lit (.int .u8 0)], .agg [.lit (.int .u8 0), .lit (.int .u8 0)], .agg [.lit (.int .u8 0), .lit (.int .u8 0)], .agg [.lit (.int .u8 0), .lit (.int .u8 0)]]
def laid_strconv_ErrRange {H : Type} : DataW H := .iface "*errors.errorString" (.ptr (.agg [.lit (.string [118, 97, 108, 117, 101, 32, 111, 117, 116, 32, 111, 102, 32, 114, 97, 110, 103, 101])]))
def laid_strconv_ErrSyntax {H : Type} : DataW H := .iface "*errors.errorString" (.ptr (.agg [.lit (.string [105, 110, 118, 97, 108, 105, 100, 32, 115, 121, 110, 116, 97, 120])]))
/-- One of Go's own tables, pinned by name: the form's constant. -/
def laid_unicode_utf8_first : DataW Unit := Go.Pinned.utf8First

/-- 'quadformlaw26.SymbolValid': WHATEVER THE INPUT: true; the input reads as it did. -/
def symbolValidSpec : ChangeSpec := { name := "symbolValid", fn := fun _ => fun
  | [d1, d2, d3, d4, d5] => { results := [.lit (.bool true)], args := [d1, d2, d3, d4, d5] }
  | _ => none }
def symbolValidRow : OpenClaim := { program := "ytejmmglffmckeaagreatdoor", sum := "dc735d807ea9c3b226b27dee2c2f6c753194a824029db42ab8d8f13a2fe0e923", func := "quadform/quadformlaw26.SymbolValid", spec := "symbolValid", inPlace := ["internal/abi.NoEscape"], unfollowed := true, recurses := true, named := ["quadform/prime.offsets", "internal/strconv.uint64pow10", "math/bits.deBruijn32tab", "math/bits.deBruijn64tab"], apart := false, laid := [("math/bits.deBruijn32tab", laid_math_bits_deBruijn32tab), ("math/bits.deBruijn64tab", laid_math_bits_deBruijn64tab), ("internal/strconv.uint64pow10", laid_internal_strconv_uint64pow10), ("quadform/prime.offsets", laid_quadform_prime_offsets)] }
def SymbolValidSaid : Prop := symbolValidRow.holds Tryz.pinned (OpenSpec.ofChange symbolValidSpec)

/-- ITS FALSE NEIGHBOUR: 'it returns false'. Refute it at one input. -/
def symbolValidWrong : ChangeSpec := { name := "symbolValid", fn := fun _ => fun
  | [d1, d2, d3, d4, d5] => { results := [.lit (.bool false)], args := [d1, d2, d3, d4, d5] }
  | _ => none }
def SymbolValidWrongFalsely : Prop := symbolValidRow.holds Tryz.pinned (OpenSpec.ofChange symbolValidWrong)

/-- 'quadformlaw26.SymbolOf': WHATEVER THE INPUT: true; the input reads as it did. -/
def symbolOfSpec : ChangeSpec := { name := "symbolOf", fn := fun _ => fun
  | [d1, d2, d3, d4, d5, d6] => { results := [.lit (.bool true)], args := [d1, d2, d3, d4, d5, d6] }
  | _ => none }
def symbolOfRow : OpenClaim := { program := "ytejmmglffmckeaagreatdoor", sum := "dc735d807ea9c3b226b27dee2c2f6c753194a824029db42ab8d8f13a2fe0e923", func := "quadform/quadformlaw26.SymbolOf", spec := "symbolOf", inPlace := ["internal/abi.NoEscape"], unfollowed := true, recurses := true, named := ["quadform/prime.offsets", "internal/strconv.uint64pow10", "math/bits.deBruijn32tab", "math/bits.deBruijn64tab"], apart := false, laid := [("math/bits.deBruijn32tab", laid_math_bits_deBruijn32tab), ("math/bits.deBruijn64tab", laid_math_bits_deBruijn64tab), ("internal/strconv.uint64pow10", laid_internal_strconv_uint64pow10), ("quadform/prime.offsets", laid_quadform_prime_offsets)] }
def SymbolOfSaid : Prop := symbolOfRow.holds Tryz.pinned (OpenSpec.ofChange symbolOfSpec)

/-- ITS FALSE NEIGHBOUR: 'it returns false'. Refute it at one input. -/
def symbolOfWrong : ChangeSpec := { name := "symbolOf", fn := fun _ => fun
  | [d1, d2, d3, d4, d5, d6] => { results := [.lit (.bool false)], args := [d1, d2, d3, d4, d5, d6] }
  | _ => none }
def SymbolOfWrongFalsely : Prop := symbolOfRow.holds Tryz.pinned (OpenSpec.ofChange symbolOfWrong)

/-- 'quadformlaw26.SymbolInvariant': WHATEVER THE INPUT: true; the input reads as it did. -/
def symbolInvariantSpec : ChangeSpec := { name := "symbolInvariant", fn := fun _ => fun
  | [d1, d2] => { results := [.lit (.bool true)], args := [d1, d2] }
  | _ => none }
def symbolInvariantRow : OpenClaim := { program := "ytejmmglffmckeaagreatdoor", sum := "dc735d807ea9c3b226b27dee2c2f6c753194a824029db42ab8d8f13a2fe0e923", func := "quadform/quadformlaw26.SymbolInvariant", spec := "symbolInvariant", inPlace := ["internal/abi.NoEscape"], unfollowed := true, recurses := true, named := ["quadform/prime.offsets", "internal/strconv.uint64pow10", "math/bits.deBruijn32tab", "math/bits.deBruijn64tab"], apart := false, laid := [("math/bits.deBruijn32tab", laid_math_bits_deBruijn32tab), ("math/bits.deBruijn64tab", laid_math_bits_deBruijn64tab), ("internal/strconv.uint64pow10", laid_internal_strconv_uint64pow10), ("quadform/prime.offsets", laid_quadform_prime_offsets)] }
def SymbolInvariantSaid : Prop := symbolInvariantRow.holds Tryz.pinned (OpenSpec.ofChange symbolInvariantSpec)

/-- ITS FALSE NEIGHBOUR: 'it returns false'. Refute it at one input. -/
def symbolInvariantWrong : ChangeSpec := { name := "symbolInvariant", fn := fun _ => fun
  | [d1, d2] => { results := [.lit (.bool false)], args := [d1, d2] }
  | _ => none }
def SymbolInvariantWrongFalsely : Prop := symbolInvariantRow.holds Tryz.pinned (OpenSpec.ofChange symbolInvariantWrong)

/-- 'quadformlaw26.SymbolExcess': WHATEVER THE INPUT: true; the input reads as it did. -/
def symbolExcessSpec : ChangeSpec := { name := "symbolExcess", fn := fun _ => fun
  | [d1, d2, d3] => { results := [.lit (.bool true)], args := [d1, d2, d3] }
  | _ => none }
def symbolExcessRow : OpenClaim := { program := "ytejmmglffmckeaagreatdoor", sum := "dc735d807ea9c3b226b27dee2c2f6c753194a824029db42ab8d8f13a2fe0e923", func := "quadform/quadformlaw26.SymbolExcess", spec := "symbolExcess", inPlace := ["internal/abi.NoEscape"], unfollowed := true, recurses := true, named := ["quadform/prime.offsets", "internal/strconv.uint64pow10", "math/bits.deBruijn32tab", "math/bits.deBruijn64tab"], apart := false, laid := [("math/bits.deBruijn32tab", laid_math_bits_deBruijn32tab), ("math/bits.deBruijn64tab", laid_math_bits_deBruijn64tab), ("internal/strconv.uint64pow10", laid_internal_strconv_uint64pow10), ("quadform/prime.offsets", laid_quadform_prime_offsets)] }
def SymbolExcessSaid : Prop := symbolExcessRow.holds Tryz.pinned (OpenSpec.ofChange symbolExcessSpec)

/-- ITS FALSE NEIGHBOUR: 'it returns false'. Refute it at one input. -/
def symbolExcessWrong : ChangeSpec := { name := "symbolExcess", fn := fun _ => fun
  | [d1, d2, d3] => { results := [.lit (.bool false)], args := [d1, d2, d3] }
  | _ => none }
def SymbolExcessWrongFalsely : Prop := symbolExcessRow.holds Tryz.pinned (OpenSpec.ofChange symbolExcessWrong)

/-- 'quadformlaw26.SymbolScale': WHATEVER THE INPUT: true; the input reads as it did. -/
def symbolScaleSpec : ChangeSpec := { name := "symbolScale", fn := fun _ => fun
  | [d1, d2, d3, d4, d5] => { results := [.lit (.bool true)], args := [d1, d2, d3, d4, d5] }
  | _ => none }
def symbolScaleRow : OpenClaim := { program := "ytejmmglffmckeaagreatdoor", sum := "dc735d807ea9c3b226b27dee2c2f6c753194a824029db42ab8d8f13a2fe0e923", func := "quadform/quadformlaw26.SymbolScale", spec := "symbolScale", inPlace := ["internal/abi.NoEscape"], unfollowed := true, recurses := true, named := ["quadform/prime.offsets", "internal/strconv.uint64pow10", "math/bits.deBruijn32tab", "math/bits.deBruijn64tab"], apart := false, laid := [("math/bits.deBruijn32tab", laid_math_bits_deBruijn32tab), ("math/bits.deBruijn64tab", laid_math_bits_deBruijn64tab), ("internal/strconv.uint64pow10", laid_internal_strconv_uint64pow10), ("quadform/prime.offsets", laid_quadform_prime_offsets)] }
def SymbolScaleSaid : Prop := symbolScaleRow.holds Tryz.pinned (OpenSpec.ofChange symbolScaleSpec)

/-- ITS FALSE NEIGHBOUR: 'it returns false'. Refute it at one input. -/
def symbolScaleWrong : ChangeSpec := { name := "symbolScale", fn := fun _ => fun
  | [d1, d2, d3, d4, d5] => { results := [.lit (.bool false)], args := [d1, d2, d3, d4, d5] }
  | _ => none }
def SymbolScaleWrongFalsely : Prop := symbolScaleRow.holds Tryz.pinned (OpenSpec.ofChange symbolScaleWrong)

/-- 'quadformlaw26.SymbolSum': WHATEVER THE INPUT: true; the input reads as it did. -/
def symbolSumSpec : ChangeSpec := { name := "symbolSum", fn := fun _ => fun
  | [d1, d2, d3, d4, d5, d6] => { results := [.lit (.bool true)], args := [d1, d2, d3, d4, d5, d6] }
  | _ => none }
def symbolSumRow : OpenClaim := { program := "ytejmmglffmckeaagreatdoor", sum := "dc735d807ea9c3b226b27dee2c2f6c753194a824029db42ab8d8f13a2fe0e923", func := "quadform/quadformlaw26.SymbolSum", spec := "symbolSum", inPlace := ["internal/abi.NoEscape"], unfollowed := true, recurses := true, named := ["quadform/prime.offsets", "internal/strconv.uint64pow10", "math/bits.deBruijn32tab", "math/bits.deBruijn64tab"], apart := false, laid := [("math/bits.deBruijn32tab", laid_math_bits_deBruijn32tab), ("math/bits.deBruijn64tab", laid_math_bits_deBruijn64tab), ("internal/strconv.uint64pow10", laid_internal_strconv_uint64pow10), ("quadform/prime.offsets", laid_quadform_prime_offsets)] }
def SymbolSumSaid : Prop := symbolSumRow.holds Tryz.pinned (OpenSpec.ofChange symbolSumSpec)

/-- ITS FALSE NEIGHBOUR: 'it returns false'. Refute it at one input. -/
def symbolSumWrong : ChangeSpec := { name := "symbolSum", fn := fun _ => fun
  | [d1, d2, d3, d4, d5, d6] => { results := [.lit (.bool false)], args := [d1, d2, d3, d4, d5, d6] }
  | _ => none }
def SymbolSumWrongFalsely : Prop := symbolSumRow.holds Tryz.pinned (OpenSpec.ofChange symbolSumWrong)

/-- 'quadformlaw26.SymbolSums': WHATEVER THE INPUT: true; the input reads as it did. -/
def symbolSumsSpec : ChangeSpec := { name := "symbolSums", fn := fun _ => fun
  | [d1, d2, d3] => { results := [.lit (.bool true)], args := [d1, d2, d3] }
  | _ => none }
def symbolSumsRow : OpenClaim := { program := "ytejmmglffmckeaagreatdoor", sum := "dc735d807ea9c3b226b27dee2c2f6c753194a824029db42ab8d8f13a2fe0e923", func := "quadform/quadformlaw26.SymbolSums", spec := "symbolSums", inPlace := ["internal/abi.NoEscape"], unfollowed := true, recurses := true, named := ["quadform/prime.offsets", "internal/strconv.uint64pow10", "math/bits.deBruijn32tab", "math/bits.deBruijn64tab"], apart := false, laid := [("math/bits.deBruijn32tab", laid_math_bits_deBruijn32tab), ("math/bits.deBruijn64tab", laid_math_bits_deBruijn64tab), ("internal/strconv.uint64pow10", laid_internal_strconv_uint64pow10), ("quadform/prime.offsets", laid_quadform_prime_offsets)] }
def SymbolSumsSaid : Prop := symbolSumsRow.holds Tryz.pinned (OpenSpec.ofChange symbolSumsSpec)

/-- ITS FALSE NEIGHBOUR: 'it returns false'. Refute it at one input. -/
def symbolSumsWrong : ChangeSpec := { name := "symbolSums", fn := fun _ => fun
  | [d1, d2, d3] => { results := [.lit (.bool false)], args := [d1, d2, d3] }
  | _ => none }
def SymbolSumsWrongFalsely : Prop := symbolSumsRow.holds Tryz.pinned (OpenSpec.ofChange symbolSumsWrong)

/-- 'quadformlaw26.SymbolForms': WHATEVER THE INPUT: true; the input reads as it did. -/
def symbolFormsSpec : ChangeSpec := { name := "symbolForms", fn := fun _ => fun
  | [d1, d2, d3] => { results := [.lit (.bool true)], args := [d1, d2, d3] }
  | _ => none }
def symbolFormsRow : OpenClaim := { program := "ytejmmglffmckeaagreatdoor", sum := "dc735d807ea9c3b226b27dee2c2f6c753194a824029db42ab8d8f13a2fe0e923", func := "quadform/quadformlaw26.SymbolForms", spec := "symbolForms", inPlace := ["internal/abi.NoEscape"], unfollowed := true, recurses := true, named := ["quadform/prime.offsets", "internal/strconv.uint64pow10", "math/bits.deBruijn32tab", "math/bits.deBruijn64tab"], apart := false, laid := [("math/bits.deBruijn32tab", laid_math_bits_deBruijn32tab), ("math/bits.deBruijn64tab", laid_math_bits_deBruijn64tab), ("internal/strconv.uint64pow10", laid_internal_strconv_uint64pow10), ("quadform/prime.offsets", laid_quadform_prime_offsets)] }
def SymbolFormsSaid : Prop := symbolFormsRow.holds Tryz.pinned (OpenSpec.ofChange symbolFormsSpec)

/-- ITS FALSE NEIGHBOUR: 'it returns false'. Refute it at one input. -/
def symbolFormsWrong : ChangeSpec := { name := "symbolForms", fn := fun _ => fun
  | [d1, d2, d3] => { results := [.lit (.bool false)], args := [d1, d2, d3] }
  | _ => none }
def SymbolFormsWrongFalsely : Prop := symbolFormsRow.holds Tryz.pinned (OpenSpec.ofChange symbolFormsWrong)

/-- 'quadformlaw26.SymbolCompare': WHATEVER THE INPUT: true; the input reads as it did. -/
def symbolCompareSpec : ChangeSpec := { name := "symbolCompare", fn := fun _ => fun
  | [d1, d2, d3, d4, d5, d6, d7, d8, d9] => { results := [.lit (.bool true)], args := [d1, d2, d3, d4, d5, d6, d7, d8, d9] }
  | _ => none }
def symbolCompareRow : OpenClaim := { program := "ytejmmglffmckeaagreatdoor", sum := "dc735d807ea9c3b226b27dee2c2f6c753194a824029db42ab8d8f13a2fe0e923", func := "quadform/quadformlaw26.SymbolCompare", spec := "symbolCompare", inPlace := ["internal/abi.NoEscape"], unfollowed := true, recurses := true, named := ["quadform/prime.offsets", "internal/strconv.uint64pow10", "math/bits.deBruijn32tab", "math/bits.deBruijn64tab"], apart := false, laid := [("math/bits.deBruijn32tab", laid_math_bits_deBruijn32tab), ("math/bits.deBruijn64tab", laid_math_bits_deBruijn64tab), ("internal/strconv.uint64pow10", laid_internal_strconv_uint64pow10), ("quadform/prime.offsets", laid_quadform_prime_offsets)] }
def SymbolCompareSaid : Prop := symbolCompareRow.holds Tryz.pinned (OpenSpec.ofChange symbolCompareSpec)

/-- ITS FALSE NEIGHBOUR: 'it returns false'. Refute it at one input. -/
def symbolCompareWrong : ChangeSpec := { name := "symbolCompare", fn := fun _ => fun
  | [d1, d2, d3, d4, d5, d6, d7, d8, d9] => { results := [.lit (.bool false)], args := [d1, d2, d3, d4, d5, d6, d7, d8, d9] }
  | _ => none }
def SymbolCompareWrongFalsely : Prop := symbolCompareRow.holds Tryz.pinned (OpenSpec.ofChange symbolCompareWrong)

/-- 'quadformlaw26.SymbolFormat': WHATEVER THE INPUT: true; the input reads as it did. -/
def symbolFormatSpec : ChangeSpec := { name := "symbolFormat", fn := fun _ => fun
  | [d1, d2, d3] => { results := [.lit (.bool true)], args := [d1, d2, d3] }
  | _ => none }
def symbolFormatRow : OpenClaim := { program := "ytejmmglffmckeaagreatdoor", sum := "dc735d807ea9c3b226b27dee2c2f6c753194a824029db42ab8d8f13a2fe0e923", func := "quadform/quadformlaw26.SymbolFormat", spec := "symbolFormat", inPlace := ["internal/abi.NoEscape", "internal/bytealg.IndexByteString", "internal/bytealg.IndexString"], unfollowed := true, recurses := true, named := ["quadform/prime.offsets", "internal/strconv.uint64pow10", "math/bits.deBruijn32tab", "math/bits.deBruijn64tab", "internal/bytealg.MaxLen", "strconv.ErrSyntax", "strconv.ErrRange", "unicode/utf8.first", "unicode/utf8.acceptRanges"], apart := false, laid := [("math/bits.deBruijn32tab", laid_math_bits_deBruijn32tab), ("math/bits.deBruijn64tab", laid_math_bits_deBruijn64tab), ("internal/strconv.uint64pow10", laid_internal_strconv_uint64pow10), ("unicode/utf8.acceptRanges", laid_unicode_utf8_acceptRanges), ("strconv.ErrRange", laid_strconv_ErrRange), ("strconv.ErrSyntax", laid_strconv_ErrSyntax), ("quadform/prime.offsets", laid_quadform_prime_offsets), ("unicode/utf8.first", laid_unicode_utf8_first)] }
def SymbolFormatSaid : Prop := symbolFormatRow.holds Tryz.pinned (OpenSpec.ofChange symbolFormatSpec)

/-- ITS FALSE NEIGHBOUR: 'it returns false'. Refute it at one input. -/
def symbolFormatWrong : ChangeSpec := { name := "symbolFormat", fn := fun _ => fun
  | [d1, d2, d3] => { results := [.lit (.bool false)], args := [d1, d2, d3] }
  | _ => none }
def SymbolFormatWrongFalsely : Prop := symbolFormatRow.holds Tryz.pinned (OpenSpec.ofChange symbolFormatWrong)

/-- 'quadformlaw26.SymbolParse': WHATEVER THE INPUT: true; the input reads as it did. -/
def symbolParseSpec : ChangeSpec := { name := "symbolParse", fn := fun _ => fun
  | [d1, d2, d3, d4, d5, d6] => { results := [.lit (.bool true)], args := [d1, d2, d3, d4, d5, d6] }
  | _ => none }
def symbolParseRow : OpenClaim := { program := "ytejmmglffmckeaagreatdoor", sum := "dc735d807ea9c3b226b27dee2c2f6c753194a824029db42ab8d8f13a2fe0e923", func := "quadform/quadformlaw26.SymbolParse", spec := "symbolParse", inPlace := ["internal/abi.NoEscape", "internal/bytealg.IndexByteString", "internal/bytealg.IndexString"], unfollowed := true, recurses := true, named := ["quadform/prime.offsets", "internal/strconv.uint64pow10", "math/bits.deBruijn32tab", "math/bits.deBruijn64tab", "internal/bytealg.MaxLen", "strconv.ErrSyntax", "strconv.ErrRange", "unicode/utf8.first", "unicode/utf8.acceptRanges"], apart := false, laid := [("math/bits.deBruijn32tab", laid_math_bits_deBruijn32tab), ("math/bits.deBruijn64tab", laid_math_bits_deBruijn64tab), ("internal/strconv.uint64pow10", laid_internal_strconv_uint64pow10), ("unicode/utf8.acceptRanges", laid_unicode_utf8_acceptRanges), ("strconv.ErrRange", laid_strconv_ErrRange), ("strconv.ErrSyntax", laid_strconv_ErrSyntax), ("quadform/prime.offsets", laid_quadform_prime_offsets), ("unicode/utf8.first", laid_unicode_utf8_first)] }
def SymbolParseSaid : Prop := symbolParseRow.holds Tryz.pinned (OpenSpec.ofChange symbolParseSpec)

/-- ITS FALSE NEIGHBOUR: 'it returns false'. Refute it at one input. -/
def symbolParseWrong : ChangeSpec := { name := "symbolParse", fn := fun _ => fun
  | [d1, d2, d3, d4, d5, d6] => { results := [.lit (.bool false)], args := [d1, d2, d3, d4, d5, d6] }
  | _ => none }
def SymbolParseWrongFalsely : Prop := symbolParseRow.holds Tryz.pinned (OpenSpec.ofChange symbolParseWrong)

/- THE SECOND FORM. 'bulk': how many values and letters a reading holds, each counted each time it is reached (what is shared counts as often as it is met; a slice's spare places count too). A statement '..UptoSaid' is the law's where the arguments, and the package variables that the reading takes, are together of bulk at most 1048576: NARROWER than '..Said'. Prove '..Said' where nothing that the law and all that it calls make is longer than what came in: it says more and counts as full. Else prove '..UptoSaid'. A law counts once. -/
mutual
def uptoBulk {H : Type} : DataW H → Nat
  | .lit (.string bytes) => bytes.length + 1
  | .lit _ => 1
  | .nil => 1
  | .ptr d => uptoBulk d + 1
  | .slice elems spare => uptoBulkAll elems + uptoBulkAll spare + 1
  | .agg parts => uptoBulkAll parts + 1
  | .iface _ d => uptoBulk d + 1
  | .map entries => uptoBulkEntries entries + 1
  | .held _ => 1
def uptoBulkAll {H : Type} : List (DataW H) → Nat
  | [] => 0
  | d :: r => uptoBulk d + uptoBulkAll r
def uptoBulkEntries {H : Type} : List (Lit × DataW H) → Nat
  | [] => 0
  | x :: r => uptoBulkEntry x + uptoBulkEntries r
def uptoBulkEntry {H : Type} : Lit × DataW H → Nat
  | (.string bytes, d) => bytes.length + uptoBulk d + 1
  | (_, d) => uptoBulk d + 1
 end
def uptoSmall : (H : Type) → List (DataW H) → Bool := fun _ ds => decide (uptoBulkAll ds ≤ 1048576)
def OpenSpec.upto (s : _root_.Go.ChangeSpec) : _root_.Go.OpenSpec := { _root_.Go.OpenSpec.ofChange s with cond := some uptoSmall }

/-- 'quadformlaw26.SymbolValid', WHERE WHAT IT READS IS OF BULK AT MOST 1048576: true; the input reads as it did. -/
def symbolValidUptoRow : OpenClaim := { program := "ytejmmglffmckeaagreatdoor", sum := "dc735d807ea9c3b226b27dee2c2f6c753194a824029db42ab8d8f13a2fe0e923", func := "quadform/quadformlaw26.SymbolValid", spec := "symbolValid", inPlace := ["internal/abi.NoEscape"], unfollowed := true, recurses := true, named := ["quadform/prime.offsets", "internal/strconv.uint64pow10", "math/bits.deBruijn32tab", "math/bits.deBruijn64tab"], apart := false, laid := [("math/bits.deBruijn32tab", laid_math_bits_deBruijn32tab), ("math/bits.deBruijn64tab", laid_math_bits_deBruijn64tab), ("internal/strconv.uint64pow10", laid_internal_strconv_uint64pow10), ("quadform/prime.offsets", laid_quadform_prime_offsets)], narrowed := true }
def SymbolValidUptoSaid : Prop := symbolValidUptoRow.holds Tryz.pinned (OpenSpec.upto symbolValidSpec)

/-- 'quadformlaw26.SymbolOf', WHERE WHAT IT READS IS OF BULK AT MOST 1048576: true; the input reads as it did. -/
def symbolOfUptoRow : OpenClaim := { program := "ytejmmglffmckeaagreatdoor", sum := "dc735d807ea9c3b226b27dee2c2f6c753194a824029db42ab8d8f13a2fe0e923", func := "quadform/quadformlaw26.SymbolOf", spec := "symbolOf", inPlace := ["internal/abi.NoEscape"], unfollowed := true, recurses := true, named := ["quadform/prime.offsets", "internal/strconv.uint64pow10", "math/bits.deBruijn32tab", "math/bits.deBruijn64tab"], apart := false, laid := [("math/bits.deBruijn32tab", laid_math_bits_deBruijn32tab), ("math/bits.deBruijn64tab", laid_math_bits_deBruijn64tab), ("internal/strconv.uint64pow10", laid_internal_strconv_uint64pow10), ("quadform/prime.offsets", laid_quadform_prime_offsets)], narrowed := true }
def SymbolOfUptoSaid : Prop := symbolOfUptoRow.holds Tryz.pinned (OpenSpec.upto symbolOfSpec)

/-- 'quadformlaw26.SymbolInvariant', WHERE WHAT IT READS IS OF BULK AT MOST 1048576: true; the input reads as it did. -/
def symbolInvariantUptoRow : OpenClaim := { program := "ytejmmglffmckeaagreatdoor", sum := "dc735d807ea9c3b226b27dee2c2f6c753194a824029db42ab8d8f13a2fe0e923", func := "quadform/quadformlaw26.SymbolInvariant", spec := "symbolInvariant", inPlace := ["internal/abi.NoEscape"], unfollowed := true, recurses := true, named := ["quadform/prime.offsets", "internal/strconv.uint64pow10", "math/bits.deBruijn32tab", "math/bits.deBruijn64tab"], apart := false, laid := [("math/bits.deBruijn32tab", laid_math_bits_deBruijn32tab), ("math/bits.deBruijn64tab", laid_math_bits_deBruijn64tab), ("internal/strconv.uint64pow10", laid_internal_strconv_uint64pow10), ("quadform/prime.offsets", laid_quadform_prime_offsets)], narrowed := true }
def SymbolInvariantUptoSaid : Prop := symbolInvariantUptoRow.holds Tryz.pinned (OpenSpec.upto symbolInvariantSpec)

/-- 'quadformlaw26.SymbolExcess', WHERE WHAT IT READS IS OF BULK AT MOST 1048576: true; the input reads as it did. -/
def symbolExcessUptoRow : OpenClaim := { program := "ytejmmglffmckeaagreatdoor", sum := "dc735d807ea9c3b226b27dee2c2f6c753194a824029db42ab8d8f13a2fe0e923", func := "quadform/quadformlaw26.SymbolExcess", spec := "symbolExcess", inPlace := ["internal/abi.NoEscape"], unfollowed := true, recurses := true, named := ["quadform/prime.offsets", "internal/strconv.uint64pow10", "math/bits.deBruijn32tab", "math/bits.deBruijn64tab"], apart := false, laid := [("math/bits.deBruijn32tab", laid_math_bits_deBruijn32tab), ("math/bits.deBruijn64tab", laid_math_bits_deBruijn64tab), ("internal/strconv.uint64pow10", laid_internal_strconv_uint64pow10), ("quadform/prime.offsets", laid_quadform_prime_offsets)], narrowed := true }
def SymbolExcessUptoSaid : Prop := symbolExcessUptoRow.holds Tryz.pinned (OpenSpec.upto symbolExcessSpec)

/-- 'quadformlaw26.SymbolScale', WHERE WHAT IT READS IS OF BULK AT MOST 1048576: true; the input reads as it did. -/
def symbolScaleUptoRow : OpenClaim := { program := "ytejmmglffmckeaagreatdoor", sum := "dc735d807ea9c3b226b27dee2c2f6c753194a824029db42ab8d8f13a2fe0e923", func := "quadform/quadformlaw26.SymbolScale", spec := "symbolScale", inPlace := ["internal/abi.NoEscape"], unfollowed := true, recurses := true, named := ["quadform/prime.offsets", "internal/strconv.uint64pow10", "math/bits.deBruijn32tab", "math/bits.deBruijn64tab"], apart := false, laid := [("math/bits.deBruijn32tab", laid_math_bits_deBruijn32tab), ("math/bits.deBruijn64tab", laid_math_bits_deBruijn64tab), ("internal/strconv.uint64pow10", laid_internal_strconv_uint64pow10), ("quadform/prime.offsets", laid_quadform_prime_offsets)], narrowed := true }
def SymbolScaleUptoSaid : Prop := symbolScaleUptoRow.holds Tryz.pinned (OpenSpec.upto symbolScaleSpec)

/-- 'quadformlaw26.SymbolSum', WHERE WHAT IT READS IS OF BULK AT MOST 1048576: true; the input reads as it did. -/
def symbolSumUptoRow : OpenClaim := { program := "ytejmmglffmckeaagreatdoor", sum := "dc735d807ea9c3b226b27dee2c2f6c753194a824029db42ab8d8f13a2fe0e923", func := "quadform/quadformlaw26.SymbolSum", spec := "symbolSum", inPlace := ["internal/abi.NoEscape"], unfollowed := true, recurses := true, named := ["quadform/prime.offsets", "internal/strconv.uint64pow10", "math/bits.deBruijn32tab", "math/bits.deBruijn64tab"], apart := false, laid := [("math/bits.deBruijn32tab", laid_math_bits_deBruijn32tab), ("math/bits.deBruijn64tab", laid_math_bits_deBruijn64tab), ("internal/strconv.uint64pow10", laid_internal_strconv_uint64pow10), ("quadform/prime.offsets", laid_quadform_prime_offsets)], narrowed := true }
def SymbolSumUptoSaid : Prop := symbolSumUptoRow.holds Tryz.pinned (OpenSpec.upto symbolSumSpec)

/-- 'quadformlaw26.SymbolSums', WHERE WHAT IT READS IS OF BULK AT MOST 1048576: true; the input reads as it did. -/
def symbolSumsUptoRow : OpenClaim := { program := "ytejmmglffmckeaagreatdoor", sum := "dc735d807ea9c3b226b27dee2c2f6c753194a824029db42ab8d8f13a2fe0e923", func := "quadform/quadformlaw26.SymbolSums", spec := "symbolSums", inPlace := ["internal/abi.NoEscape"], unfollowed := true, recurses := true, named := ["quadform/prime.offsets", "internal/strconv.uint64pow10", "math/bits.deBruijn32tab", "math/bits.deBruijn64tab"], apart := false, laid := [("math/bits.deBruijn32tab", laid_math_bits_deBruijn32tab), ("math/bits.deBruijn64tab", laid_math_bits_deBruijn64tab), ("internal/strconv.uint64pow10", laid_internal_strconv_uint64pow10), ("quadform/prime.offsets", laid_quadform_prime_offsets)], narrowed := true }
def SymbolSumsUptoSaid : Prop := symbolSumsUptoRow.holds Tryz.pinned (OpenSpec.upto symbolSumsSpec)

/-- 'quadformlaw26.SymbolForms', WHERE WHAT IT READS IS OF BULK AT MOST 1048576: true; the input reads as it did. -/
def symbolFormsUptoRow : OpenClaim := { program := "ytejmmglffmckeaagreatdoor", sum := "dc735d807ea9c3b226b27dee2c2f6c753194a824029db42ab8d8f13a2fe0e923", func := "quadform/quadformlaw26.SymbolForms", spec := "symbolForms", inPlace := ["internal/abi.NoEscape"], unfollowed := true, recurses := true, named := ["quadform/prime.offsets", "internal/strconv.uint64pow10", "math/bits.deBruijn32tab", "math/bits.deBruijn64tab"], apart := false, laid := [("math/bits.deBruijn32tab", laid_math_bits_deBruijn32tab), ("math/bits.deBruijn64tab", laid_math_bits_deBruijn64tab), ("internal/strconv.uint64pow10", laid_internal_strconv_uint64pow10), ("quadform/prime.offsets", laid_quadform_prime_offsets)], narrowed := true }
def SymbolFormsUptoSaid : Prop := symbolFormsUptoRow.holds Tryz.pinned (OpenSpec.upto symbolFormsSpec)

/-- 'quadformlaw26.SymbolCompare', WHERE WHAT IT READS IS OF BULK AT MOST 1048576: true; the input reads as it did. -/
def symbolCompareUptoRow : OpenClaim := { program := "ytejmmglffmckeaagreatdoor", sum := "dc735d807ea9c3b226b27dee2c2f6c753194a824029db42ab8d8f13a2fe0e923", func := "quadform/quadformlaw26.SymbolCompare", spec := "symbolCompare", inPlace := ["internal/abi.NoEscape"], unfollowed := true, recurses := true, named := ["quadform/prime.offsets", "internal/strconv.uint64pow10", "math/bits.deBruijn32tab", "math/bits.deBruijn64tab"], apart := false, laid := [("math/bits.deBruijn32tab", laid_math_bits_deBruijn32tab), ("math/bits.deBruijn64tab", laid_math_bits_deBruijn64tab), ("internal/strconv.uint64pow10", laid_internal_strconv_uint64pow10), ("quadform/prime.offsets", laid_quadform_prime_offsets)], narrowed := true }
def SymbolCompareUptoSaid : Prop := symbolCompareUptoRow.holds Tryz.pinned (OpenSpec.upto symbolCompareSpec)

/-- 'quadformlaw26.SymbolFormat', WHERE WHAT IT READS IS OF BULK AT MOST 1048576: true; the input reads as it did. -/
def symbolFormatUptoRow : OpenClaim := { program := "ytejmmglffmckeaagreatdoor", sum := "dc735d807ea9c3b226b27dee2c2f6c753194a824029db42ab8d8f13a2fe0e923", func := "quadform/quadformlaw26.SymbolFormat", spec := "symbolFormat", inPlace := ["internal/abi.NoEscape", "internal/bytealg.IndexByteString", "internal/bytealg.IndexString"], unfollowed := true, recurses := true, named := ["quadform/prime.offsets", "internal/strconv.uint64pow10", "math/bits.deBruijn32tab", "math/bits.deBruijn64tab", "internal/bytealg.MaxLen", "strconv.ErrSyntax", "strconv.ErrRange", "unicode/utf8.first", "unicode/utf8.acceptRanges"], apart := false, laid := [("math/bits.deBruijn32tab", laid_math_bits_deBruijn32tab), ("math/bits.deBruijn64tab", laid_math_bits_deBruijn64tab), ("internal/strconv.uint64pow10", laid_internal_strconv_uint64pow10), ("unicode/utf8.acceptRanges", laid_unicode_utf8_acceptRanges), ("strconv.ErrRange", laid_strconv_ErrRange), ("strconv.ErrSyntax", laid_strconv_ErrSyntax), ("quadform/prime.offsets", laid_quadform_prime_offsets), ("unicode/utf8.first", laid_unicode_utf8_first)], narrowed := true }
def SymbolFormatUptoSaid : Prop := symbolFormatUptoRow.holds Tryz.pinned (OpenSpec.upto symbolFormatSpec)

/-- 'quadformlaw26.SymbolParse', WHERE WHAT IT READS IS OF BULK AT MOST 1048576: true; the input reads as it did. -/
def symbolParseUptoRow : OpenClaim := { program := "ytejmmglffmckeaagreatdoor", sum := "dc735d807ea9c3b226b27dee2c2f6c753194a824029db42ab8d8f13a2fe0e923", func := "quadform/quadformlaw26.SymbolParse", spec := "symbolParse", inPlace := ["internal/abi.NoEscape", "internal/bytealg.IndexByteString", "internal/bytealg.IndexString"], unfollowed := true, recurses := true, named := ["quadform/prime.offsets", "internal/strconv.uint64pow10", "math/bits.deBruijn32tab", "math/bits.deBruijn64tab", "internal/bytealg.MaxLen", "strconv.ErrSyntax", "strconv.ErrRange", "unicode/utf8.first", "unicode/utf8.acceptRanges"], apart := false, laid := [("math/bits.deBruijn32tab", laid_math_bits_deBruijn32tab), ("math/bits.deBruijn64tab", laid_math_bits_deBruijn64tab), ("internal/strconv.uint64pow10", laid_internal_strconv_uint64pow10), ("unicode/utf8.acceptRanges", laid_unicode_utf8_acceptRanges), ("strconv.ErrRange", laid_strconv_ErrRange), ("strconv.ErrSyntax", laid_strconv_ErrSyntax), ("quadform/prime.offsets", laid_quadform_prime_offsets), ("unicode/utf8.first", laid_unicode_utf8_first)], narrowed := true }
def SymbolParseUptoSaid : Prop := symbolParseUptoRow.holds Tryz.pinned (OpenSpec.upto symbolParseSpec)

end Rows
end Go.Proofs.YtejmmglffmckeaaGreatDoor
