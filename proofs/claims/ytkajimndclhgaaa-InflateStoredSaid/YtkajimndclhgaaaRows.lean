/-
  No cell of these rows narrows 'for every input' (looked for: loops, veiled, ifaces, maps, wideKeys, modest, calm, conditions, laid).
  DERIVED. THE GIVEN ROWS OF THIS SEAT. 29 by the template 'for every input the law returns true; each argument reads behind the call as it read before'; 0 by the template 'total and deterministic' (their statements: YtkajimndclhgaaaTotals.lean).
  GIVEN WITH THE SEED: the statements are not yours to turn. If you find one false, say at which input.
  Laid BY PROGRAM, IN A SANDBOX (cutbox-rows.mjs): the forced cells as the released guide's own fill.sh prints them over the translation 2055719a03ea3e4a… (all of the seat's roots in one cut). By AI agents, Wed Nov 11 2026. No macro, syntax, notation, axiom, sorry.
-/
import Derived.Test.YtkajimndclhgaaaChecked
import GoSem.Claim
import GoSem.ClaimJoined
import GoSem.ClaimMapViews
import Derived.JoinedTies
import Derived.KernelRfl
namespace Go.Proofs.Ytkajimndclhgaaa
/- THE CELL 'sum', in the pinned program and in every row, IS THE sha256 OF THE DUMP (.gsa) THAT YtkajimndclhgaaaProg.lean LOADS. Nothing in Lean hashes anything: it is a label: what it is worth is what the hold of that sum in a sandbox is worth. -/
noncomputable def Try.pinned : Pinned := { name := "ytkajimndclhgaaa", sum := "2055719a03ea3e4a11769db1baa9d1b67a639d211009423818e841324e583412", checked := Try.checked }
namespace Rows
def none {H : Type} : Left H := { results := [], args := [] }

/-- 'trovelaw2.BitsBack': WHATEVER THE INPUT: true; the input reads as it did. -/
def bitsBackSpec : ChangeSpec := { name := "bitsBack", fn := fun _ => fun
  | [d] => { results := [.lit (.bool true)], args := [d] }
  | _ => none }
def bitsBackRow : OpenClaim := { program := "ytkajimndclhgaaa", sum := "2055719a03ea3e4a11769db1baa9d1b67a639d211009423818e841324e583412", func := "trove/trovelaw2.BitsBack", spec := "bitsBack", plainKeys := false, apart := false }
def BitsBackSaid : Prop := bitsBackRow.holds Try.pinned (OpenSpec.ofChange bitsBackSpec)

/-- ITS FALSE NEIGHBOUR: 'it returns false'. Refute it at one input. -/
def bitsBackWrong : ChangeSpec := { name := "bitsBack", fn := fun _ => fun
  | [d] => { results := [.lit (.bool false)], args := [d] }
  | _ => none }
def BitsBackWrongFalsely : Prop := bitsBackRow.holds Try.pinned (OpenSpec.ofChange bitsBackWrong)

/-- 'trovelaw2.BitsWrites': WHATEVER THE INPUT: true; the input reads as it did. -/
def bitsWritesSpec : ChangeSpec := { name := "bitsWrites", fn := fun _ => fun
  | [d] => { results := [.lit (.bool true)], args := [d] }
  | _ => none }
def bitsWritesRow : OpenClaim := { program := "ytkajimndclhgaaa", sum := "2055719a03ea3e4a11769db1baa9d1b67a639d211009423818e841324e583412", func := "trove/trovelaw2.BitsWrites", spec := "bitsWrites", plainKeys := false, apart := false }
def BitsWritesSaid : Prop := bitsWritesRow.holds Try.pinned (OpenSpec.ofChange bitsWritesSpec)

/-- ITS FALSE NEIGHBOUR: 'it returns false'. Refute it at one input. -/
def bitsWritesWrong : ChangeSpec := { name := "bitsWrites", fn := fun _ => fun
  | [d] => { results := [.lit (.bool false)], args := [d] }
  | _ => none }
def BitsWritesWrongFalsely : Prop := bitsWritesRow.holds Try.pinned (OpenSpec.ofChange bitsWritesWrong)

/-- 'trovelaw2.BitsReads': WHATEVER THE INPUT: true; the input reads as it did. -/
def bitsReadsSpec : ChangeSpec := { name := "bitsReads", fn := fun _ => fun
  | [d1, d2] => { results := [.lit (.bool true)], args := [d1, d2] }
  | _ => none }
def bitsReadsRow : OpenClaim := { program := "ytkajimndclhgaaa", sum := "2055719a03ea3e4a11769db1baa9d1b67a639d211009423818e841324e583412", func := "trove/trovelaw2.BitsReads", spec := "bitsReads", plainKeys := false, apart := false }
def BitsReadsSaid : Prop := bitsReadsRow.holds Try.pinned (OpenSpec.ofChange bitsReadsSpec)

/-- ITS FALSE NEIGHBOUR: 'it returns false'. Refute it at one input. -/
def bitsReadsWrong : ChangeSpec := { name := "bitsReads", fn := fun _ => fun
  | [d1, d2] => { results := [.lit (.bool false)], args := [d1, d2] }
  | _ => none }
def BitsReadsWrongFalsely : Prop := bitsReadsRow.holds Try.pinned (OpenSpec.ofChange bitsReadsWrong)

/-- 'trovelaw2.BitsSplit': WHATEVER THE INPUT: true; the input reads as it did. -/
def bitsSplitSpec : ChangeSpec := { name := "bitsSplit", fn := fun _ => fun
  | [d1, d2, d3, d4] => { results := [.lit (.bool true)], args := [d1, d2, d3, d4] }
  | _ => none }
def bitsSplitRow : OpenClaim := { program := "ytkajimndclhgaaa", sum := "2055719a03ea3e4a11769db1baa9d1b67a639d211009423818e841324e583412", func := "trove/trovelaw2.BitsSplit", spec := "bitsSplit", plainKeys := false, apart := false }
def BitsSplitSaid : Prop := bitsSplitRow.holds Try.pinned (OpenSpec.ofChange bitsSplitSpec)

/-- ITS FALSE NEIGHBOUR: 'it returns false'. Refute it at one input. -/
def bitsSplitWrong : ChangeSpec := { name := "bitsSplit", fn := fun _ => fun
  | [d1, d2, d3, d4] => { results := [.lit (.bool false)], args := [d1, d2, d3, d4] }
  | _ => none }
def BitsSplitWrongFalsely : Prop := bitsSplitRow.holds Try.pinned (OpenSpec.ofChange bitsSplitWrong)

/-- 'trovelaw3.ShaBytes': WHATEVER THE INPUT: true; the input reads as it did. -/
def shaBytesSpec : ChangeSpec := { name := "shaBytes", fn := fun _ => fun
  | [d] => { results := [.lit (.bool true)], args := [d] }
  | _ => none }
def shaBytesRow : OpenClaim := { program := "ytkajimndclhgaaa", sum := "2055719a03ea3e4a11769db1baa9d1b67a639d211009423818e841324e583412", func := "trove/trovelaw3.ShaBytes", spec := "shaBytes", plainKeys := false, apart := false }
def ShaBytesSaid : Prop := shaBytesRow.holds Try.pinned (OpenSpec.ofChange shaBytesSpec)

/-- ITS FALSE NEIGHBOUR: 'it returns false'. Refute it at one input. -/
def shaBytesWrong : ChangeSpec := { name := "shaBytes", fn := fun _ => fun
  | [d] => { results := [.lit (.bool false)], args := [d] }
  | _ => none }
def ShaBytesWrongFalsely : Prop := shaBytesRow.holds Try.pinned (OpenSpec.ofChange shaBytesWrong)

/-- 'trovelaw3.ShaParts': WHATEVER THE INPUT: true; the input reads as it did. -/
def shaPartsSpec : ChangeSpec := { name := "shaParts", fn := fun _ => fun
  | [d1, d2] => { results := [.lit (.bool true)], args := [d1, d2] }
  | _ => none }
def shaPartsRow : OpenClaim := { program := "ytkajimndclhgaaa", sum := "2055719a03ea3e4a11769db1baa9d1b67a639d211009423818e841324e583412", func := "trove/trovelaw3.ShaParts", spec := "shaParts", plainKeys := false, apart := false }
def ShaPartsSaid : Prop := shaPartsRow.holds Try.pinned (OpenSpec.ofChange shaPartsSpec)

/-- ITS FALSE NEIGHBOUR: 'it returns false'. Refute it at one input. -/
def shaPartsWrong : ChangeSpec := { name := "shaParts", fn := fun _ => fun
  | [d1, d2] => { results := [.lit (.bool false)], args := [d1, d2] }
  | _ => none }
def ShaPartsWrongFalsely : Prop := shaPartsRow.holds Try.pinned (OpenSpec.ofChange shaPartsWrong)

/-- 'trovelaw3.ShaLong': WHATEVER THE INPUT: true; the input reads as it did. -/
def shaLongSpec : ChangeSpec := { name := "shaLong", fn := fun _ => fun
  | [d1, d2, d3] => { results := [.lit (.bool true)], args := [d1, d2, d3] }
  | _ => none }
def shaLongRow : OpenClaim := { program := "ytkajimndclhgaaa", sum := "2055719a03ea3e4a11769db1baa9d1b67a639d211009423818e841324e583412", func := "trove/trovelaw3.ShaLong", spec := "shaLong", plainKeys := false, apart := false }
def ShaLongSaid : Prop := shaLongRow.holds Try.pinned (OpenSpec.ofChange shaLongSpec)

/-- ITS FALSE NEIGHBOUR: 'it returns false'. Refute it at one input. -/
def shaLongWrong : ChangeSpec := { name := "shaLong", fn := fun _ => fun
  | [d1, d2, d3] => { results := [.lit (.bool false)], args := [d1, d2, d3] }
  | _ => none }
def ShaLongWrongFalsely : Prop := shaLongRow.holds Try.pinned (OpenSpec.ofChange shaLongWrong)

/-- 'trovelaw3.ShaCuts': WHATEVER THE INPUT: true; the input reads as it did. -/
def shaCutsSpec : ChangeSpec := { name := "shaCuts", fn := fun _ => fun
  | [d] => { results := [.lit (.bool true)], args := [d] }
  | _ => none }
def shaCutsRow : OpenClaim := { program := "ytkajimndclhgaaa", sum := "2055719a03ea3e4a11769db1baa9d1b67a639d211009423818e841324e583412", func := "trove/trovelaw3.ShaCuts", spec := "shaCuts", plainKeys := false, apart := false }
def ShaCutsSaid : Prop := shaCutsRow.holds Try.pinned (OpenSpec.ofChange shaCutsSpec)

/-- ITS FALSE NEIGHBOUR: 'it returns false'. Refute it at one input. -/
def shaCutsWrong : ChangeSpec := { name := "shaCuts", fn := fun _ => fun
  | [d] => { results := [.lit (.bool false)], args := [d] }
  | _ => none }
def ShaCutsWrongFalsely : Prop := shaCutsRow.holds Try.pinned (OpenSpec.ofChange shaCutsWrong)

/-- 'trovelaw8.LzTokens': WHATEVER THE INPUT: true; the input reads as it did. -/
def lzTokensSpec : ChangeSpec := { name := "lzTokens", fn := fun _ => fun
  | [d1, d2] => { results := [.lit (.bool true)], args := [d1, d2] }
  | _ => none }
def lzTokensRow : OpenClaim := { program := "ytkajimndclhgaaa", sum := "2055719a03ea3e4a11769db1baa9d1b67a639d211009423818e841324e583412", func := "trove/trovelaw8.LzTokens", spec := "lzTokens", plainKeys := false, apart := false }
def LzTokensSaid : Prop := lzTokensRow.holds Try.pinned (OpenSpec.ofChange lzTokensSpec)

/-- ITS FALSE NEIGHBOUR: 'it returns false'. Refute it at one input. -/
def lzTokensWrong : ChangeSpec := { name := "lzTokens", fn := fun _ => fun
  | [d1, d2] => { results := [.lit (.bool false)], args := [d1, d2] }
  | _ => none }
def LzTokensWrongFalsely : Prop := lzTokensRow.holds Try.pinned (OpenSpec.ofChange lzTokensWrong)

/-- 'trovelaw8.LzFinds': WHATEVER THE INPUT: true; the input reads as it did. -/
def lzFindsSpec : ChangeSpec := { name := "lzFinds", fn := fun _ => fun
  | [d1, d2] => { results := [.lit (.bool true)], args := [d1, d2] }
  | _ => none }
def lzFindsRow : OpenClaim := { program := "ytkajimndclhgaaa", sum := "2055719a03ea3e4a11769db1baa9d1b67a639d211009423818e841324e583412", func := "trove/trovelaw8.LzFinds", spec := "lzFinds", plainKeys := false, apart := false }
def LzFindsSaid : Prop := lzFindsRow.holds Try.pinned (OpenSpec.ofChange lzFindsSpec)

/-- ITS FALSE NEIGHBOUR: 'it returns false'. Refute it at one input. -/
def lzFindsWrong : ChangeSpec := { name := "lzFinds", fn := fun _ => fun
  | [d1, d2] => { results := [.lit (.bool false)], args := [d1, d2] }
  | _ => none }
def LzFindsWrongFalsely : Prop := lzFindsRow.holds Try.pinned (OpenSpec.ofChange lzFindsWrong)

/-- 'trovelaw8.LzRepeats': WHATEVER THE INPUT: true; the input reads as it did. -/
def lzRepeatsSpec : ChangeSpec := { name := "lzRepeats", fn := fun _ => fun
  | [d1, d2, d3] => { results := [.lit (.bool true)], args := [d1, d2, d3] }
  | _ => none }
def lzRepeatsRow : OpenClaim := { program := "ytkajimndclhgaaa", sum := "2055719a03ea3e4a11769db1baa9d1b67a639d211009423818e841324e583412", func := "trove/trovelaw8.LzRepeats", spec := "lzRepeats", plainKeys := false, apart := false }
def LzRepeatsSaid : Prop := lzRepeatsRow.holds Try.pinned (OpenSpec.ofChange lzRepeatsSpec)

/-- ITS FALSE NEIGHBOUR: 'it returns false'. Refute it at one input. -/
def lzRepeatsWrong : ChangeSpec := { name := "lzRepeats", fn := fun _ => fun
  | [d1, d2, d3] => { results := [.lit (.bool false)], args := [d1, d2, d3] }
  | _ => none }
def LzRepeatsWrongFalsely : Prop := lzRepeatsRow.holds Try.pinned (OpenSpec.ofChange lzRepeatsWrong)

/-- 'trovelaw8.LzCuts': WHATEVER THE INPUT: true; the input reads as it did. -/
def lzCutsSpec : ChangeSpec := { name := "lzCuts", fn := fun _ => fun
  | [d1, d2, d3] => { results := [.lit (.bool true)], args := [d1, d2, d3] }
  | _ => none }
def lzCutsRow : OpenClaim := { program := "ytkajimndclhgaaa", sum := "2055719a03ea3e4a11769db1baa9d1b67a639d211009423818e841324e583412", func := "trove/trovelaw8.LzCuts", spec := "lzCuts", plainKeys := false, apart := false }
def LzCutsSaid : Prop := lzCutsRow.holds Try.pinned (OpenSpec.ofChange lzCutsSpec)

/-- ITS FALSE NEIGHBOUR: 'it returns false'. Refute it at one input. -/
def lzCutsWrong : ChangeSpec := { name := "lzCuts", fn := fun _ => fun
  | [d1, d2, d3] => { results := [.lit (.bool false)], args := [d1, d2, d3] }
  | _ => none }
def LzCutsWrongFalsely : Prop := lzCutsRow.holds Try.pinned (OpenSpec.ofChange lzCutsWrong)

/-- 'trovelaw1.BinRows': WHATEVER THE INPUT: true; the input reads as it did. -/
def binRowsSpec : ChangeSpec := { name := "binRows", fn := fun _ => fun
  | [d] => { results := [.lit (.bool true)], args := [d] }
  | _ => none }
def binRowsRow : OpenClaim := { program := "ytkajimndclhgaaa", sum := "2055719a03ea3e4a11769db1baa9d1b67a639d211009423818e841324e583412", func := "trove/trovelaw1.BinRows", spec := "binRows", plainKeys := false, apart := false }
def BinRowsSaid : Prop := binRowsRow.holds Try.pinned (OpenSpec.ofChange binRowsSpec)

/-- ITS FALSE NEIGHBOUR: 'it returns false'. Refute it at one input. -/
def binRowsWrong : ChangeSpec := { name := "binRows", fn := fun _ => fun
  | [d] => { results := [.lit (.bool false)], args := [d] }
  | _ => none }
def BinRowsWrongFalsely : Prop := binRowsRow.holds Try.pinned (OpenSpec.ofChange binRowsWrong)

/-- 'trovelaw1.BinReads': WHATEVER THE INPUT: true; the input reads as it did. -/
def binReadsSpec : ChangeSpec := { name := "binReads", fn := fun _ => fun
  | [d1, d2] => { results := [.lit (.bool true)], args := [d1, d2] }
  | _ => none }
def binReadsRow : OpenClaim := { program := "ytkajimndclhgaaa", sum := "2055719a03ea3e4a11769db1baa9d1b67a639d211009423818e841324e583412", func := "trove/trovelaw1.BinReads", spec := "binReads", plainKeys := false, apart := false }
def BinReadsSaid : Prop := binReadsRow.holds Try.pinned (OpenSpec.ofChange binReadsSpec)

/-- ITS FALSE NEIGHBOUR: 'it returns false'. Refute it at one input. -/
def binReadsWrong : ChangeSpec := { name := "binReads", fn := fun _ => fun
  | [d1, d2] => { results := [.lit (.bool false)], args := [d1, d2] }
  | _ => none }
def BinReadsWrongFalsely : Prop := binReadsRow.holds Try.pinned (OpenSpec.ofChange binReadsWrong)

/-- 'trovelaw1.BinShort': WHATEVER THE INPUT: true; the input reads as it did. -/
def binShortSpec : ChangeSpec := { name := "binShort", fn := fun _ => fun
  | [d1, d2] => { results := [.lit (.bool true)], args := [d1, d2] }
  | _ => none }
def binShortRow : OpenClaim := { program := "ytkajimndclhgaaa", sum := "2055719a03ea3e4a11769db1baa9d1b67a639d211009423818e841324e583412", func := "trove/trovelaw1.BinShort", spec := "binShort", plainKeys := false, apart := false }
def BinShortSaid : Prop := binShortRow.holds Try.pinned (OpenSpec.ofChange binShortSpec)

/-- ITS FALSE NEIGHBOUR: 'it returns false'. Refute it at one input. -/
def binShortWrong : ChangeSpec := { name := "binShort", fn := fun _ => fun
  | [d1, d2] => { results := [.lit (.bool false)], args := [d1, d2] }
  | _ => none }
def BinShortWrongFalsely : Prop := binShortRow.holds Try.pinned (OpenSpec.ofChange binShortWrong)

/-- 'trovelaw1.BinTails': WHATEVER THE INPUT: true; the input reads as it did. -/
def binTailsSpec : ChangeSpec := { name := "binTails", fn := fun _ => fun
  | [d1, d2, d3] => { results := [.lit (.bool true)], args := [d1, d2, d3] }
  | _ => none }
def binTailsRow : OpenClaim := { program := "ytkajimndclhgaaa", sum := "2055719a03ea3e4a11769db1baa9d1b67a639d211009423818e841324e583412", func := "trove/trovelaw1.BinTails", spec := "binTails", plainKeys := false, apart := false }
def BinTailsSaid : Prop := binTailsRow.holds Try.pinned (OpenSpec.ofChange binTailsSpec)

/-- ITS FALSE NEIGHBOUR: 'it returns false'. Refute it at one input. -/
def binTailsWrong : ChangeSpec := { name := "binTails", fn := fun _ => fun
  | [d1, d2, d3] => { results := [.lit (.bool false)], args := [d1, d2, d3] }
  | _ => none }
def BinTailsWrongFalsely : Prop := binTailsRow.holds Try.pinned (OpenSpec.ofChange binTailsWrong)

/-- 'trovelaw5.HuffCodes': WHATEVER THE INPUT: true; the input reads as it did. -/
def huffCodesSpec : ChangeSpec := { name := "huffCodes", fn := fun _ => fun
  | [d1, d2] => { results := [.lit (.bool true)], args := [d1, d2] }
  | _ => none }
def huffCodesRow : OpenClaim := { program := "ytkajimndclhgaaa", sum := "2055719a03ea3e4a11769db1baa9d1b67a639d211009423818e841324e583412", func := "trove/trovelaw5.HuffCodes", spec := "huffCodes", unfollowed := true, recurses := true, plainKeys := false, apart := false }
def HuffCodesSaid : Prop := huffCodesRow.holds Try.pinned (OpenSpec.ofChange huffCodesSpec)

/-- ITS FALSE NEIGHBOUR: 'it returns false'. Refute it at one input. -/
def huffCodesWrong : ChangeSpec := { name := "huffCodes", fn := fun _ => fun
  | [d1, d2] => { results := [.lit (.bool false)], args := [d1, d2] }
  | _ => none }
def HuffCodesWrongFalsely : Prop := huffCodesRow.holds Try.pinned (OpenSpec.ofChange huffCodesWrong)

/-- 'trovelaw5.HuffReads': WHATEVER THE INPUT: true; the input reads as it did. -/
def huffReadsSpec : ChangeSpec := { name := "huffReads", fn := fun _ => fun
  | [d1, d2, d3] => { results := [.lit (.bool true)], args := [d1, d2, d3] }
  | _ => none }
def huffReadsRow : OpenClaim := { program := "ytkajimndclhgaaa", sum := "2055719a03ea3e4a11769db1baa9d1b67a639d211009423818e841324e583412", func := "trove/trovelaw5.HuffReads", spec := "huffReads", unfollowed := true, recurses := true, plainKeys := false, apart := false }
def HuffReadsSaid : Prop := huffReadsRow.holds Try.pinned (OpenSpec.ofChange huffReadsSpec)

/-- ITS FALSE NEIGHBOUR: 'it returns false'. Refute it at one input. -/
def huffReadsWrong : ChangeSpec := { name := "huffReads", fn := fun _ => fun
  | [d1, d2, d3] => { results := [.lit (.bool false)], args := [d1, d2, d3] }
  | _ => none }
def HuffReadsWrongFalsely : Prop := huffReadsRow.holds Try.pinned (OpenSpec.ofChange huffReadsWrong)

/-- 'trovelaw5.HuffRoom': WHATEVER THE INPUT: true; the input reads as it did. -/
def huffRoomSpec : ChangeSpec := { name := "huffRoom", fn := fun _ => fun
  | [d1, d2] => { results := [.lit (.bool true)], args := [d1, d2] }
  | _ => none }
def huffRoomRow : OpenClaim := { program := "ytkajimndclhgaaa", sum := "2055719a03ea3e4a11769db1baa9d1b67a639d211009423818e841324e583412", func := "trove/trovelaw5.HuffRoom", spec := "huffRoom", unfollowed := true, recurses := true, plainKeys := false, apart := false }
def HuffRoomSaid : Prop := huffRoomRow.holds Try.pinned (OpenSpec.ofChange huffRoomSpec)

/-- ITS FALSE NEIGHBOUR: 'it returns false'. Refute it at one input. -/
def huffRoomWrong : ChangeSpec := { name := "huffRoom", fn := fun _ => fun
  | [d1, d2] => { results := [.lit (.bool false)], args := [d1, d2] }
  | _ => none }
def HuffRoomWrongFalsely : Prop := huffRoomRow.holds Try.pinned (OpenSpec.ofChange huffRoomWrong)

/-- 'trovelaw5.HuffOrder': WHATEVER THE INPUT: true; the input reads as it did. -/
def huffOrderSpec : ChangeSpec := { name := "huffOrder", fn := fun _ => fun
  | [d] => { results := [.lit (.bool true)], args := [d] }
  | _ => none }
def huffOrderRow : OpenClaim := { program := "ytkajimndclhgaaa", sum := "2055719a03ea3e4a11769db1baa9d1b67a639d211009423818e841324e583412", func := "trove/trovelaw5.HuffOrder", spec := "huffOrder", unfollowed := true, recurses := true, plainKeys := false, apart := false }
def HuffOrderSaid : Prop := huffOrderRow.holds Try.pinned (OpenSpec.ofChange huffOrderSpec)

/-- ITS FALSE NEIGHBOUR: 'it returns false'. Refute it at one input. -/
def huffOrderWrong : ChangeSpec := { name := "huffOrder", fn := fun _ => fun
  | [d] => { results := [.lit (.bool false)], args := [d] }
  | _ => none }
def HuffOrderWrongFalsely : Prop := huffOrderRow.holds Try.pinned (OpenSpec.ofChange huffOrderWrong)

/-- 'trovelaw5.HuffWords': WHATEVER THE INPUT: true; the input reads as it did. -/
def huffWordsSpec : ChangeSpec := { name := "huffWords", fn := fun _ => fun
  | [d1, d2] => { results := [.lit (.bool true)], args := [d1, d2] }
  | _ => none }
def huffWordsRow : OpenClaim := { program := "ytkajimndclhgaaa", sum := "2055719a03ea3e4a11769db1baa9d1b67a639d211009423818e841324e583412", func := "trove/trovelaw5.HuffWords", spec := "huffWords", unfollowed := true, recurses := true, plainKeys := false, apart := false }
def HuffWordsSaid : Prop := huffWordsRow.holds Try.pinned (OpenSpec.ofChange huffWordsSpec)

/-- ITS FALSE NEIGHBOUR: 'it returns false'. Refute it at one input. -/
def huffWordsWrong : ChangeSpec := { name := "huffWords", fn := fun _ => fun
  | [d1, d2] => { results := [.lit (.bool false)], args := [d1, d2] }
  | _ => none }
def HuffWordsWrongFalsely : Prop := huffWordsRow.holds Try.pinned (OpenSpec.ofChange huffWordsWrong)

/-- 'trovelaw5.HuffBack': WHATEVER THE INPUT: true; the input reads as it did. -/
def huffBackSpec : ChangeSpec := { name := "huffBack", fn := fun _ => fun
  | [d1, d2] => { results := [.lit (.bool true)], args := [d1, d2] }
  | _ => none }
def huffBackRow : OpenClaim := { program := "ytkajimndclhgaaa", sum := "2055719a03ea3e4a11769db1baa9d1b67a639d211009423818e841324e583412", func := "trove/trovelaw5.HuffBack", spec := "huffBack", unfollowed := true, recurses := true, plainKeys := false, apart := false }
def HuffBackSaid : Prop := huffBackRow.holds Try.pinned (OpenSpec.ofChange huffBackSpec)

/-- ITS FALSE NEIGHBOUR: 'it returns false'. Refute it at one input. -/
def huffBackWrong : ChangeSpec := { name := "huffBack", fn := fun _ => fun
  | [d1, d2] => { results := [.lit (.bool false)], args := [d1, d2] }
  | _ => none }
def HuffBackWrongFalsely : Prop := huffBackRow.holds Try.pinned (OpenSpec.ofChange huffBackWrong)

/-- 'trovelaw6.LimitWider': WHATEVER THE INPUT: true; the input reads as it did. -/
def limitWiderSpec : ChangeSpec := { name := "limitWider", fn := fun _ => fun
  | [d1, d2, d3] => { results := [.lit (.bool true)], args := [d1, d2, d3] }
  | _ => none }
def limitWiderRow : OpenClaim := { program := "ytkajimndclhgaaa", sum := "2055719a03ea3e4a11769db1baa9d1b67a639d211009423818e841324e583412", func := "trove/trovelaw6.LimitWider", spec := "limitWider", unfollowed := true, recurses := true, plainKeys := false, apart := false }
def LimitWiderSaid : Prop := limitWiderRow.holds Try.pinned (OpenSpec.ofChange limitWiderSpec)

/-- ITS FALSE NEIGHBOUR: 'it returns false'. Refute it at one input. -/
def limitWiderWrong : ChangeSpec := { name := "limitWider", fn := fun _ => fun
  | [d1, d2, d3] => { results := [.lit (.bool false)], args := [d1, d2, d3] }
  | _ => none }
def LimitWiderWrongFalsely : Prop := limitWiderRow.holds Try.pinned (OpenSpec.ofChange limitWiderWrong)

/-- 'trovelaw6.LimitBest': WHATEVER THE INPUT: true; the input reads as it did. -/
def limitBestSpec : ChangeSpec := { name := "limitBest", fn := fun _ => fun
  | [d1, d2] => { results := [.lit (.bool true)], args := [d1, d2] }
  | _ => none }
def limitBestRow : OpenClaim := { program := "ytkajimndclhgaaa", sum := "2055719a03ea3e4a11769db1baa9d1b67a639d211009423818e841324e583412", func := "trove/trovelaw6.LimitBest", spec := "limitBest", unfollowed := true, recurses := true, plainKeys := false, apart := false }
def LimitBestSaid : Prop := limitBestRow.holds Try.pinned (OpenSpec.ofChange limitBestSpec)

/-- ITS FALSE NEIGHBOUR: 'it returns false'. Refute it at one input. -/
def limitBestWrong : ChangeSpec := { name := "limitBest", fn := fun _ => fun
  | [d1, d2] => { results := [.lit (.bool false)], args := [d1, d2] }
  | _ => none }
def LimitBestWrongFalsely : Prop := limitBestRow.holds Try.pinned (OpenSpec.ofChange limitBestWrong)

/-- 'trovelaw7.InflateTables': WHATEVER THE INPUT: true; the input reads as it did. -/
def inflateTablesSpec : ChangeSpec := { name := "inflateTables", fn := fun _ => fun
  | [d] => { results := [.lit (.bool true)], args := [d] }
  | _ => none }
def inflateTablesRow : OpenClaim := { program := "ytkajimndclhgaaa", sum := "2055719a03ea3e4a11769db1baa9d1b67a639d211009423818e841324e583412", func := "trove/trovelaw7.InflateTables", spec := "inflateTables", unfollowed := true, recurses := true, plainKeys := false, apart := false }
def InflateTablesSaid : Prop := inflateTablesRow.holds Try.pinned (OpenSpec.ofChange inflateTablesSpec)

/-- ITS FALSE NEIGHBOUR: 'it returns false'. Refute it at one input. -/
def inflateTablesWrong : ChangeSpec := { name := "inflateTables", fn := fun _ => fun
  | [d] => { results := [.lit (.bool false)], args := [d] }
  | _ => none }
def InflateTablesWrongFalsely : Prop := inflateTablesRow.holds Try.pinned (OpenSpec.ofChange inflateTablesWrong)

/-- 'trovelaw7.InflateMade': WHATEVER THE INPUT: true; the input reads as it did. -/
def inflateMadeSpec : ChangeSpec := { name := "inflateMade", fn := fun _ => fun
  | [d] => { results := [.lit (.bool true)], args := [d] }
  | _ => none }
def inflateMadeRow : OpenClaim := { program := "ytkajimndclhgaaa", sum := "2055719a03ea3e4a11769db1baa9d1b67a639d211009423818e841324e583412", func := "trove/trovelaw7.InflateMade", spec := "inflateMade", unfollowed := true, recurses := true, plainKeys := false, apart := false }
def InflateMadeSaid : Prop := inflateMadeRow.holds Try.pinned (OpenSpec.ofChange inflateMadeSpec)

/-- ITS FALSE NEIGHBOUR: 'it returns false'. Refute it at one input. -/
def inflateMadeWrong : ChangeSpec := { name := "inflateMade", fn := fun _ => fun
  | [d] => { results := [.lit (.bool false)], args := [d] }
  | _ => none }
def InflateMadeWrongFalsely : Prop := inflateMadeRow.holds Try.pinned (OpenSpec.ofChange inflateMadeWrong)

/-- 'trovelaw7.InflateStored': WHATEVER THE INPUT: true; the input reads as it did. -/
def inflateStoredSpec : ChangeSpec := { name := "inflateStored", fn := fun _ => fun
  | [d1, d2] => { results := [.lit (.bool true)], args := [d1, d2] }
  | _ => none }
def inflateStoredRow : OpenClaim := { program := "ytkajimndclhgaaa", sum := "2055719a03ea3e4a11769db1baa9d1b67a639d211009423818e841324e583412", func := "trove/trovelaw7.InflateStored", spec := "inflateStored", unfollowed := true, recurses := true, plainKeys := false, apart := false }
def InflateStoredSaid : Prop := inflateStoredRow.holds Try.pinned (OpenSpec.ofChange inflateStoredSpec)

/-- ITS FALSE NEIGHBOUR: 'it returns false'. Refute it at one input. -/
def inflateStoredWrong : ChangeSpec := { name := "inflateStored", fn := fun _ => fun
  | [d1, d2] => { results := [.lit (.bool false)], args := [d1, d2] }
  | _ => none }
def InflateStoredWrongFalsely : Prop := inflateStoredRow.holds Try.pinned (OpenSpec.ofChange inflateStoredWrong)

/-- 'trovelaw7.InflateFar': WHATEVER THE INPUT: true; the input reads as it did. -/
def inflateFarSpec : ChangeSpec := { name := "inflateFar", fn := fun _ => fun
  | [d1, d2, d3] => { results := [.lit (.bool true)], args := [d1, d2, d3] }
  | _ => none }
def inflateFarRow : OpenClaim := { program := "ytkajimndclhgaaa", sum := "2055719a03ea3e4a11769db1baa9d1b67a639d211009423818e841324e583412", func := "trove/trovelaw7.InflateFar", spec := "inflateFar", unfollowed := true, recurses := true, plainKeys := false, apart := false }
def InflateFarSaid : Prop := inflateFarRow.holds Try.pinned (OpenSpec.ofChange inflateFarSpec)

/-- ITS FALSE NEIGHBOUR: 'it returns false'. Refute it at one input. -/
def inflateFarWrong : ChangeSpec := { name := "inflateFar", fn := fun _ => fun
  | [d1, d2, d3] => { results := [.lit (.bool false)], args := [d1, d2, d3] }
  | _ => none }
def InflateFarWrongFalsely : Prop := inflateFarRow.holds Try.pinned (OpenSpec.ofChange inflateFarWrong)

/-- 'trovelaw6.LimitCodes': WHATEVER THE INPUT: true; the input reads as it did. -/
def limitCodesSpec : ChangeSpec := { name := "limitCodes", fn := fun _ => fun
  | [d1, d2] => { results := [.lit (.bool true)], args := [d1, d2] }
  | _ => none }
def limitCodesRow : OpenClaim := { program := "ytkajimndclhgaaa", sum := "2055719a03ea3e4a11769db1baa9d1b67a639d211009423818e841324e583412", func := "trove/trovelaw6.LimitCodes", spec := "limitCodes", unfollowed := true, recurses := true, plainKeys := false, apart := false }
def LimitCodesSaid : Prop := limitCodesRow.holds Try.pinned (OpenSpec.ofChange limitCodesSpec)

/-- ITS FALSE NEIGHBOUR: 'it returns false'. Refute it at one input. -/
def limitCodesWrong : ChangeSpec := { name := "limitCodes", fn := fun _ => fun
  | [d1, d2] => { results := [.lit (.bool false)], args := [d1, d2] }
  | _ => none }
def LimitCodesWrongFalsely : Prop := limitCodesRow.holds Try.pinned (OpenSpec.ofChange limitCodesWrong)

/- THE SECOND FORM. 'bulk': how many values and letters a reading holds, each counted each time it is reached (what is shared counts as often as it is met; a slice's spare places count too). A statement '..UptoSaid' is the law's where the arguments, and the package variables that the reading takes, are together of bulk at most 1048576: NARROWER than '..Said'. Prove '..Said' where nothing that the law and all that it calls make is longer than what came in: it says more and counts as full. Else prove '..UptoSaid'. A law counts once. -/
mutual
def uptoBulk {H : Type} : DataW H → Nat
  | .lit (.string bytes) => bytes.length + 1
  | .lit _ => 1
  | .nil => 1
  | .ptr d => uptoBulk d + 1
  | .slice elems spare => uptoBulkAll elems + uptoBulkAll spare + 1
  | .agg parts => uptoBulkAll parts + 1
  | .iface _ d => uptoBulk d + 1
  | .map entries => uptoBulkEntries entries + 1
  | .held _ => 1
def uptoBulkAll {H : Type} : List (DataW H) → Nat
  | [] => 0
  | d :: r => uptoBulk d + uptoBulkAll r
def uptoBulkEntries {H : Type} : List (Lit × DataW H) → Nat
  | [] => 0
  | x :: r => uptoBulkEntry x + uptoBulkEntries r
def uptoBulkEntry {H : Type} : Lit × DataW H → Nat
  | (.string bytes, d) => bytes.length + uptoBulk d + 1
  | (_, d) => uptoBulk d + 1
 end
def uptoSmall : (H : Type) → List (DataW H) → Bool := fun _ ds => decide (uptoBulkAll ds ≤ 1048576)
def OpenSpec.upto (s : _root_.Go.ChangeSpec) : _root_.Go.OpenSpec := { _root_.Go.OpenSpec.ofChange s with cond := some uptoSmall }

/-- 'trovelaw2.BitsBack', WHERE WHAT IT READS IS OF BULK AT MOST 1048576: true; the input reads as it did. -/
def bitsBackUptoRow : OpenClaim := { program := "ytkajimndclhgaaa", sum := "2055719a03ea3e4a11769db1baa9d1b67a639d211009423818e841324e583412", func := "trove/trovelaw2.BitsBack", spec := "bitsBack", plainKeys := false, apart := false, narrowed := true }
def BitsBackUptoSaid : Prop := bitsBackUptoRow.holds Try.pinned (OpenSpec.upto bitsBackSpec)

/-- 'trovelaw2.BitsWrites', WHERE WHAT IT READS IS OF BULK AT MOST 1048576: true; the input reads as it did. -/
def bitsWritesUptoRow : OpenClaim := { program := "ytkajimndclhgaaa", sum := "2055719a03ea3e4a11769db1baa9d1b67a639d211009423818e841324e583412", func := "trove/trovelaw2.BitsWrites", spec := "bitsWrites", plainKeys := false, apart := false, narrowed := true }
def BitsWritesUptoSaid : Prop := bitsWritesUptoRow.holds Try.pinned (OpenSpec.upto bitsWritesSpec)

/-- 'trovelaw2.BitsReads', WHERE WHAT IT READS IS OF BULK AT MOST 1048576: true; the input reads as it did. -/
def bitsReadsUptoRow : OpenClaim := { program := "ytkajimndclhgaaa", sum := "2055719a03ea3e4a11769db1baa9d1b67a639d211009423818e841324e583412", func := "trove/trovelaw2.BitsReads", spec := "bitsReads", plainKeys := false, apart := false, narrowed := true }
def BitsReadsUptoSaid : Prop := bitsReadsUptoRow.holds Try.pinned (OpenSpec.upto bitsReadsSpec)

/-- 'trovelaw2.BitsSplit', WHERE WHAT IT READS IS OF BULK AT MOST 1048576: true; the input reads as it did. -/
def bitsSplitUptoRow : OpenClaim := { program := "ytkajimndclhgaaa", sum := "2055719a03ea3e4a11769db1baa9d1b67a639d211009423818e841324e583412", func := "trove/trovelaw2.BitsSplit", spec := "bitsSplit", plainKeys := false, apart := false, narrowed := true }
def BitsSplitUptoSaid : Prop := bitsSplitUptoRow.holds Try.pinned (OpenSpec.upto bitsSplitSpec)

/-- 'trovelaw3.ShaBytes', WHERE WHAT IT READS IS OF BULK AT MOST 1048576: true; the input reads as it did. -/
def shaBytesUptoRow : OpenClaim := { program := "ytkajimndclhgaaa", sum := "2055719a03ea3e4a11769db1baa9d1b67a639d211009423818e841324e583412", func := "trove/trovelaw3.ShaBytes", spec := "shaBytes", plainKeys := false, apart := false, narrowed := true }
def ShaBytesUptoSaid : Prop := shaBytesUptoRow.holds Try.pinned (OpenSpec.upto shaBytesSpec)

/-- 'trovelaw3.ShaParts', WHERE WHAT IT READS IS OF BULK AT MOST 1048576: true; the input reads as it did. -/
def shaPartsUptoRow : OpenClaim := { program := "ytkajimndclhgaaa", sum := "2055719a03ea3e4a11769db1baa9d1b67a639d211009423818e841324e583412", func := "trove/trovelaw3.ShaParts", spec := "shaParts", plainKeys := false, apart := false, narrowed := true }
def ShaPartsUptoSaid : Prop := shaPartsUptoRow.holds Try.pinned (OpenSpec.upto shaPartsSpec)

/-- 'trovelaw3.ShaLong', WHERE WHAT IT READS IS OF BULK AT MOST 1048576: true; the input reads as it did. -/
def shaLongUptoRow : OpenClaim := { program := "ytkajimndclhgaaa", sum := "2055719a03ea3e4a11769db1baa9d1b67a639d211009423818e841324e583412", func := "trove/trovelaw3.ShaLong", spec := "shaLong", plainKeys := false, apart := false, narrowed := true }
def ShaLongUptoSaid : Prop := shaLongUptoRow.holds Try.pinned (OpenSpec.upto shaLongSpec)

/-- 'trovelaw3.ShaCuts', WHERE WHAT IT READS IS OF BULK AT MOST 1048576: true; the input reads as it did. -/
def shaCutsUptoRow : OpenClaim := { program := "ytkajimndclhgaaa", sum := "2055719a03ea3e4a11769db1baa9d1b67a639d211009423818e841324e583412", func := "trove/trovelaw3.ShaCuts", spec := "shaCuts", plainKeys := false, apart := false, narrowed := true }
def ShaCutsUptoSaid : Prop := shaCutsUptoRow.holds Try.pinned (OpenSpec.upto shaCutsSpec)

/-- 'trovelaw8.LzTokens', WHERE WHAT IT READS IS OF BULK AT MOST 1048576: true; the input reads as it did. -/
def lzTokensUptoRow : OpenClaim := { program := "ytkajimndclhgaaa", sum := "2055719a03ea3e4a11769db1baa9d1b67a639d211009423818e841324e583412", func := "trove/trovelaw8.LzTokens", spec := "lzTokens", plainKeys := false, apart := false, narrowed := true }
def LzTokensUptoSaid : Prop := lzTokensUptoRow.holds Try.pinned (OpenSpec.upto lzTokensSpec)

/-- 'trovelaw8.LzFinds', WHERE WHAT IT READS IS OF BULK AT MOST 1048576: true; the input reads as it did. -/
def lzFindsUptoRow : OpenClaim := { program := "ytkajimndclhgaaa", sum := "2055719a03ea3e4a11769db1baa9d1b67a639d211009423818e841324e583412", func := "trove/trovelaw8.LzFinds", spec := "lzFinds", plainKeys := false, apart := false, narrowed := true }
def LzFindsUptoSaid : Prop := lzFindsUptoRow.holds Try.pinned (OpenSpec.upto lzFindsSpec)

/-- 'trovelaw8.LzRepeats', WHERE WHAT IT READS IS OF BULK AT MOST 1048576: true; the input reads as it did. -/
def lzRepeatsUptoRow : OpenClaim := { program := "ytkajimndclhgaaa", sum := "2055719a03ea3e4a11769db1baa9d1b67a639d211009423818e841324e583412", func := "trove/trovelaw8.LzRepeats", spec := "lzRepeats", plainKeys := false, apart := false, narrowed := true }
def LzRepeatsUptoSaid : Prop := lzRepeatsUptoRow.holds Try.pinned (OpenSpec.upto lzRepeatsSpec)

/-- 'trovelaw8.LzCuts', WHERE WHAT IT READS IS OF BULK AT MOST 1048576: true; the input reads as it did. -/
def lzCutsUptoRow : OpenClaim := { program := "ytkajimndclhgaaa", sum := "2055719a03ea3e4a11769db1baa9d1b67a639d211009423818e841324e583412", func := "trove/trovelaw8.LzCuts", spec := "lzCuts", plainKeys := false, apart := false, narrowed := true }
def LzCutsUptoSaid : Prop := lzCutsUptoRow.holds Try.pinned (OpenSpec.upto lzCutsSpec)

/-- 'trovelaw1.BinRows', WHERE WHAT IT READS IS OF BULK AT MOST 1048576: true; the input reads as it did. -/
def binRowsUptoRow : OpenClaim := { program := "ytkajimndclhgaaa", sum := "2055719a03ea3e4a11769db1baa9d1b67a639d211009423818e841324e583412", func := "trove/trovelaw1.BinRows", spec := "binRows", plainKeys := false, apart := false, narrowed := true }
def BinRowsUptoSaid : Prop := binRowsUptoRow.holds Try.pinned (OpenSpec.upto binRowsSpec)

/-- 'trovelaw1.BinReads', WHERE WHAT IT READS IS OF BULK AT MOST 1048576: true; the input reads as it did. -/
def binReadsUptoRow : OpenClaim := { program := "ytkajimndclhgaaa", sum := "2055719a03ea3e4a11769db1baa9d1b67a639d211009423818e841324e583412", func := "trove/trovelaw1.BinReads", spec := "binReads", plainKeys := false, apart := false, narrowed := true }
def BinReadsUptoSaid : Prop := binReadsUptoRow.holds Try.pinned (OpenSpec.upto binReadsSpec)

/-- 'trovelaw1.BinShort', WHERE WHAT IT READS IS OF BULK AT MOST 1048576: true; the input reads as it did. -/
def binShortUptoRow : OpenClaim := { program := "ytkajimndclhgaaa", sum := "2055719a03ea3e4a11769db1baa9d1b67a639d211009423818e841324e583412", func := "trove/trovelaw1.BinShort", spec := "binShort", plainKeys := false, apart := false, narrowed := true }
def BinShortUptoSaid : Prop := binShortUptoRow.holds Try.pinned (OpenSpec.upto binShortSpec)

/-- 'trovelaw1.BinTails', WHERE WHAT IT READS IS OF BULK AT MOST 1048576: true; the input reads as it did. -/
def binTailsUptoRow : OpenClaim := { program := "ytkajimndclhgaaa", sum := "2055719a03ea3e4a11769db1baa9d1b67a639d211009423818e841324e583412", func := "trove/trovelaw1.BinTails", spec := "binTails", plainKeys := false, apart := false, narrowed := true }
def BinTailsUptoSaid : Prop := binTailsUptoRow.holds Try.pinned (OpenSpec.upto binTailsSpec)

/-- 'trovelaw5.HuffCodes', WHERE WHAT IT READS IS OF BULK AT MOST 1048576: true; the input reads as it did. -/
def huffCodesUptoRow : OpenClaim := { program := "ytkajimndclhgaaa", sum := "2055719a03ea3e4a11769db1baa9d1b67a639d211009423818e841324e583412", func := "trove/trovelaw5.HuffCodes", spec := "huffCodes", unfollowed := true, recurses := true, plainKeys := false, apart := false, narrowed := true }
def HuffCodesUptoSaid : Prop := huffCodesUptoRow.holds Try.pinned (OpenSpec.upto huffCodesSpec)

/-- 'trovelaw5.HuffReads', WHERE WHAT IT READS IS OF BULK AT MOST 1048576: true; the input reads as it did. -/
def huffReadsUptoRow : OpenClaim := { program := "ytkajimndclhgaaa", sum := "2055719a03ea3e4a11769db1baa9d1b67a639d211009423818e841324e583412", func := "trove/trovelaw5.HuffReads", spec := "huffReads", unfollowed := true, recurses := true, plainKeys := false, apart := false, narrowed := true }
def HuffReadsUptoSaid : Prop := huffReadsUptoRow.holds Try.pinned (OpenSpec.upto huffReadsSpec)

/-- 'trovelaw5.HuffRoom', WHERE WHAT IT READS IS OF BULK AT MOST 1048576: true; the input reads as it did. -/
def huffRoomUptoRow : OpenClaim := { program := "ytkajimndclhgaaa", sum := "2055719a03ea3e4a11769db1baa9d1b67a639d211009423818e841324e583412", func := "trove/trovelaw5.HuffRoom", spec := "huffRoom", unfollowed := true, recurses := true, plainKeys := false, apart := false, narrowed := true }
def HuffRoomUptoSaid : Prop := huffRoomUptoRow.holds Try.pinned (OpenSpec.upto huffRoomSpec)

/-- 'trovelaw5.HuffOrder', WHERE WHAT IT READS IS OF BULK AT MOST 1048576: true; the input reads as it did. -/
def huffOrderUptoRow : OpenClaim := { program := "ytkajimndclhgaaa", sum := "2055719a03ea3e4a11769db1baa9d1b67a639d211009423818e841324e583412", func := "trove/trovelaw5.HuffOrder", spec := "huffOrder", unfollowed := true, recurses := true, plainKeys := false, apart := false, narrowed := true }
def HuffOrderUptoSaid : Prop := huffOrderUptoRow.holds Try.pinned (OpenSpec.upto huffOrderSpec)

/-- 'trovelaw5.HuffWords', WHERE WHAT IT READS IS OF BULK AT MOST 1048576: true; the input reads as it did. -/
def huffWordsUptoRow : OpenClaim := { program := "ytkajimndclhgaaa", sum := "2055719a03ea3e4a11769db1baa9d1b67a639d211009423818e841324e583412", func := "trove/trovelaw5.HuffWords", spec := "huffWords", unfollowed := true, recurses := true, plainKeys := false, apart := false, narrowed := true }
def HuffWordsUptoSaid : Prop := huffWordsUptoRow.holds Try.pinned (OpenSpec.upto huffWordsSpec)

/-- 'trovelaw5.HuffBack', WHERE WHAT IT READS IS OF BULK AT MOST 1048576: true; the input reads as it did. -/
def huffBackUptoRow : OpenClaim := { program := "ytkajimndclhgaaa", sum := "2055719a03ea3e4a11769db1baa9d1b67a639d211009423818e841324e583412", func := "trove/trovelaw5.HuffBack", spec := "huffBack", unfollowed := true, recurses := true, plainKeys := false, apart := false, narrowed := true }
def HuffBackUptoSaid : Prop := huffBackUptoRow.holds Try.pinned (OpenSpec.upto huffBackSpec)

/-- 'trovelaw6.LimitWider', WHERE WHAT IT READS IS OF BULK AT MOST 1048576: true; the input reads as it did. -/
def limitWiderUptoRow : OpenClaim := { program := "ytkajimndclhgaaa", sum := "2055719a03ea3e4a11769db1baa9d1b67a639d211009423818e841324e583412", func := "trove/trovelaw6.LimitWider", spec := "limitWider", unfollowed := true, recurses := true, plainKeys := false, apart := false, narrowed := true }
def LimitWiderUptoSaid : Prop := limitWiderUptoRow.holds Try.pinned (OpenSpec.upto limitWiderSpec)

/-- 'trovelaw6.LimitBest', WHERE WHAT IT READS IS OF BULK AT MOST 1048576: true; the input reads as it did. -/
def limitBestUptoRow : OpenClaim := { program := "ytkajimndclhgaaa", sum := "2055719a03ea3e4a11769db1baa9d1b67a639d211009423818e841324e583412", func := "trove/trovelaw6.LimitBest", spec := "limitBest", unfollowed := true, recurses := true, plainKeys := false, apart := false, narrowed := true }
def LimitBestUptoSaid : Prop := limitBestUptoRow.holds Try.pinned (OpenSpec.upto limitBestSpec)

/-- 'trovelaw7.InflateTables', WHERE WHAT IT READS IS OF BULK AT MOST 1048576: true; the input reads as it did. -/
def inflateTablesUptoRow : OpenClaim := { program := "ytkajimndclhgaaa", sum := "2055719a03ea3e4a11769db1baa9d1b67a639d211009423818e841324e583412", func := "trove/trovelaw7.InflateTables", spec := "inflateTables", unfollowed := true, recurses := true, plainKeys := false, apart := false, narrowed := true }
def InflateTablesUptoSaid : Prop := inflateTablesUptoRow.holds Try.pinned (OpenSpec.upto inflateTablesSpec)

/-- 'trovelaw7.InflateMade', WHERE WHAT IT READS IS OF BULK AT MOST 1048576: true; the input reads as it did. -/
def inflateMadeUptoRow : OpenClaim := { program := "ytkajimndclhgaaa", sum := "2055719a03ea3e4a11769db1baa9d1b67a639d211009423818e841324e583412", func := "trove/trovelaw7.InflateMade", spec := "inflateMade", unfollowed := true, recurses := true, plainKeys := false, apart := false, narrowed := true }
def InflateMadeUptoSaid : Prop := inflateMadeUptoRow.holds Try.pinned (OpenSpec.upto inflateMadeSpec)

/-- 'trovelaw7.InflateStored', WHERE WHAT IT READS IS OF BULK AT MOST 1048576: true; the input reads as it did. -/
def inflateStoredUptoRow : OpenClaim := { program := "ytkajimndclhgaaa", sum := "2055719a03ea3e4a11769db1baa9d1b67a639d211009423818e841324e583412", func := "trove/trovelaw7.InflateStored", spec := "inflateStored", unfollowed := true, recurses := true, plainKeys := false, apart := false, narrowed := true }
def InflateStoredUptoSaid : Prop := inflateStoredUptoRow.holds Try.pinned (OpenSpec.upto inflateStoredSpec)

/-- 'trovelaw7.InflateFar', WHERE WHAT IT READS IS OF BULK AT MOST 1048576: true; the input reads as it did. -/
def inflateFarUptoRow : OpenClaim := { program := "ytkajimndclhgaaa", sum := "2055719a03ea3e4a11769db1baa9d1b67a639d211009423818e841324e583412", func := "trove/trovelaw7.InflateFar", spec := "inflateFar", unfollowed := true, recurses := true, plainKeys := false, apart := false, narrowed := true }
def InflateFarUptoSaid : Prop := inflateFarUptoRow.holds Try.pinned (OpenSpec.upto inflateFarSpec)

/-- 'trovelaw6.LimitCodes', WHERE WHAT IT READS IS OF BULK AT MOST 1048576: true; the input reads as it did. -/
def limitCodesUptoRow : OpenClaim := { program := "ytkajimndclhgaaa", sum := "2055719a03ea3e4a11769db1baa9d1b67a639d211009423818e841324e583412", func := "trove/trovelaw6.LimitCodes", spec := "limitCodes", unfollowed := true, recurses := true, plainKeys := false, apart := false, narrowed := true }
def LimitCodesUptoSaid : Prop := limitCodesUptoRow.holds Try.pinned (OpenSpec.upto limitCodesSpec)

end Rows
end Go.Proofs.Ytkajimndclhgaaa
