/-
  No cell of these rows narrows 'for every input' (looked for: loops, veiled, ifaces, maps, wideKeys, modest, calm, conditions, laid).
  DERIVED. THE GIVEN ROWS OF THIS SEAT. 12 by the template 'for every input the law returns true; each argument reads behind the call as it read before'; 0 by the template 'total and deterministic' (their statements: YtejnemneenjliaaGreatTotals.lean).
  GIVEN WITH THE SEED: the statements are not yours to turn. If you find one false, say at which input.
  Laid BY PROGRAM, IN A SANDBOX (cutbox-rows.mjs): the forced cells as the released guide's own fill.sh prints them over the translation 31c49f7e58b41441… (all of the seat's roots in one cut). By AI agents, Wed Nov 11 2026. No macro, syntax, notation, axiom, sorry.
-/
import Derived.Test.YtejnemneenjliaaGreatChecked
import GoSem.Claim
import GoSem.ClaimJoined
import GoSem.ClaimMapViews
import Derived.JoinedTies
import Derived.KernelRfl
namespace Go.Proofs.YtejnemneenjliaaGreat
/- THE CELL 'sum', in the pinned program and in every row, IS THE sha256 OF THE DUMP (.gsa) THAT YtejnemneenjliaaGreatProg.lean LOADS. Nothing in Lean hashes anything: it is a label: what it is worth is what the hold of that sum in a sandbox is worth. -/
noncomputable def Tryz.pinned : Pinned := { name := "ytejnemneenjliaagreat", sum := "31c49f7e58b41441bd21b5e3db22515052c5aaf6d32e4ca443d340b7226feadb", checked := Tryz.checked }
namespace Rows
def none {H : Type} : Left H := { results := [], args := [] }

/-- 'trovelaw18.MidxOrder': WHATEVER THE INPUT: true; the input reads as it did. -/
def midxOrderSpec : ChangeSpec := { name := "midxOrder", fn := fun _ => fun
  | [d1, d2] => { results := [.lit (.bool true)], args := [d1, d2] }
  | _ => none }
def midxOrderRow : OpenClaim := { program := "ytejnemneenjliaagreat", sum := "31c49f7e58b41441bd21b5e3db22515052c5aaf6d32e4ca443d340b7226feadb", func := "trove/trovelaw18.MidxOrder", spec := "midxOrder", inPlace := ["internal/reflectlite.ValueOf", "internal/reflectlite.Swapper", "(internal/reflectlite.Value).Len", "internal/bytealg.IndexByteString", "internal/bytealg.IndexString", "internal/bytealg.Compare"], unfollowed := true, recurses := true, named := ["internal/bytealg.MaxLen"], plainKeys := false, apart := false }
def MidxOrderSaid : Prop := midxOrderRow.holds Tryz.pinned (OpenSpec.ofChange midxOrderSpec)

/-- ITS FALSE NEIGHBOUR: 'it returns false'. Refute it at one input. -/
def midxOrderWrong : ChangeSpec := { name := "midxOrder", fn := fun _ => fun
  | [d1, d2] => { results := [.lit (.bool false)], args := [d1, d2] }
  | _ => none }
def MidxOrderWrongFalsely : Prop := midxOrderRow.holds Tryz.pinned (OpenSpec.ofChange midxOrderWrong)

/-- 'trovelaw18.MidxLeast': WHATEVER THE INPUT: true; the input reads as it did. -/
def midxLeastSpec : ChangeSpec := { name := "midxLeast", fn := fun _ => fun
  | [d1, d2, d3] => { results := [.lit (.bool true)], args := [d1, d2, d3] }
  | _ => none }
def midxLeastRow : OpenClaim := { program := "ytejnemneenjliaagreat", sum := "31c49f7e58b41441bd21b5e3db22515052c5aaf6d32e4ca443d340b7226feadb", func := "trove/trovelaw18.MidxLeast", spec := "midxLeast", inPlace := ["internal/reflectlite.ValueOf", "internal/reflectlite.Swapper", "(internal/reflectlite.Value).Len", "internal/bytealg.IndexByteString", "internal/bytealg.IndexString", "internal/bytealg.Compare"], unfollowed := true, recurses := true, named := ["internal/bytealg.MaxLen"], plainKeys := false, apart := false }
def MidxLeastSaid : Prop := midxLeastRow.holds Tryz.pinned (OpenSpec.ofChange midxLeastSpec)

/-- ITS FALSE NEIGHBOUR: 'it returns false'. Refute it at one input. -/
def midxLeastWrong : ChangeSpec := { name := "midxLeast", fn := fun _ => fun
  | [d1, d2, d3] => { results := [.lit (.bool false)], args := [d1, d2, d3] }
  | _ => none }
def MidxLeastWrongFalsely : Prop := midxLeastRow.holds Tryz.pinned (OpenSpec.ofChange midxLeastWrong)

/-- 'trovelaw18.MidxBytes': WHATEVER THE INPUT: true; the input reads as it did. -/
def midxBytesSpec : ChangeSpec := { name := "midxBytes", fn := fun _ => fun
  | [d1, d2] => { results := [.lit (.bool true)], args := [d1, d2] }
  | _ => none }
def midxBytesRow : OpenClaim := { program := "ytejnemneenjliaagreat", sum := "31c49f7e58b41441bd21b5e3db22515052c5aaf6d32e4ca443d340b7226feadb", func := "trove/trovelaw18.MidxBytes", spec := "midxBytes", inPlace := ["internal/reflectlite.ValueOf", "internal/reflectlite.Swapper", "(internal/reflectlite.Value).Len", "internal/bytealg.IndexByteString", "internal/bytealg.IndexString", "internal/bytealg.Compare"], unfollowed := true, recurses := true, named := ["internal/bytealg.MaxLen"], plainKeys := false, apart := false }
def MidxBytesSaid : Prop := midxBytesRow.holds Tryz.pinned (OpenSpec.ofChange midxBytesSpec)

/-- ITS FALSE NEIGHBOUR: 'it returns false'. Refute it at one input. -/
def midxBytesWrong : ChangeSpec := { name := "midxBytes", fn := fun _ => fun
  | [d1, d2] => { results := [.lit (.bool false)], args := [d1, d2] }
  | _ => none }
def MidxBytesWrongFalsely : Prop := midxBytesRow.holds Tryz.pinned (OpenSpec.ofChange midxBytesWrong)

/-- 'trovelaw19.GraphBuilds': WHATEVER THE INPUT: true; the input reads as it did. -/
def graphBuildsSpec : ChangeSpec := { name := "graphBuilds", fn := fun _ => fun
  | [d1, d2] => { results := [.lit (.bool true)], args := [d1, d2] }
  | _ => none }
def graphBuildsRow : OpenClaim := { program := "ytejnemneenjliaagreat", sum := "31c49f7e58b41441bd21b5e3db22515052c5aaf6d32e4ca443d340b7226feadb", func := "trove/trovelaw19.GraphBuilds", spec := "graphBuilds", inPlace := ["internal/bytealg.Compare"], unfollowed := true, recurses := true, plainKeys := false, apart := false }
def GraphBuildsSaid : Prop := graphBuildsRow.holds Tryz.pinned (OpenSpec.ofChange graphBuildsSpec)

/-- ITS FALSE NEIGHBOUR: 'it returns false'. Refute it at one input. -/
def graphBuildsWrong : ChangeSpec := { name := "graphBuilds", fn := fun _ => fun
  | [d1, d2] => { results := [.lit (.bool false)], args := [d1, d2] }
  | _ => none }
def GraphBuildsWrongFalsely : Prop := graphBuildsRow.holds Tryz.pinned (OpenSpec.ofChange graphBuildsWrong)

/-- 'trovelaw19.GraphBytes': WHATEVER THE INPUT: true; the input reads as it did. -/
def graphBytesSpec : ChangeSpec := { name := "graphBytes", fn := fun _ => fun
  | [d1, d2] => { results := [.lit (.bool true)], args := [d1, d2] }
  | _ => none }
def graphBytesRow : OpenClaim := { program := "ytejnemneenjliaagreat", sum := "31c49f7e58b41441bd21b5e3db22515052c5aaf6d32e4ca443d340b7226feadb", func := "trove/trovelaw19.GraphBytes", spec := "graphBytes", inPlace := ["internal/bytealg.Compare"], unfollowed := true, recurses := true, plainKeys := false, apart := false }
def GraphBytesSaid : Prop := graphBytesRow.holds Tryz.pinned (OpenSpec.ofChange graphBytesSpec)

/-- ITS FALSE NEIGHBOUR: 'it returns false'. Refute it at one input. -/
def graphBytesWrong : ChangeSpec := { name := "graphBytes", fn := fun _ => fun
  | [d1, d2] => { results := [.lit (.bool false)], args := [d1, d2] }
  | _ => none }
def GraphBytesWrongFalsely : Prop := graphBytesRow.holds Tryz.pinned (OpenSpec.ofChange graphBytesWrong)

/-- 'trovelaw19.GraphCloses': WHATEVER THE INPUT: true; the input reads as it did. -/
def graphClosesSpec : ChangeSpec := { name := "graphCloses", fn := fun _ => fun
  | [d] => { results := [.lit (.bool true)], args := [d] }
  | _ => none }
def graphClosesRow : OpenClaim := { program := "ytejnemneenjliaagreat", sum := "31c49f7e58b41441bd21b5e3db22515052c5aaf6d32e4ca443d340b7226feadb", func := "trove/trovelaw19.GraphCloses", spec := "graphCloses", inPlace := ["internal/bytealg.Compare"], unfollowed := true, recurses := true, plainKeys := false, apart := false }
def GraphClosesSaid : Prop := graphClosesRow.holds Tryz.pinned (OpenSpec.ofChange graphClosesSpec)

/-- ITS FALSE NEIGHBOUR: 'it returns false'. Refute it at one input. -/
def graphClosesWrong : ChangeSpec := { name := "graphCloses", fn := fun _ => fun
  | [d] => { results := [.lit (.bool false)], args := [d] }
  | _ => none }
def GraphClosesWrongFalsely : Prop := graphClosesRow.holds Tryz.pinned (OpenSpec.ofChange graphClosesWrong)

/-- 'trovelaw14.EntryHeads': WHATEVER THE INPUT: true; the input reads as it did. -/
def entryHeadsSpec : ChangeSpec := { name := "entryHeads", fn := fun _ => fun
  | [d1, d2, d3] => { results := [.lit (.bool true)], args := [d1, d2, d3] }
  | _ => none }
def entryHeadsRow : OpenClaim := { program := "ytejnemneenjliaagreat", sum := "31c49f7e58b41441bd21b5e3db22515052c5aaf6d32e4ca443d340b7226feadb", func := "trove/trovelaw14.EntryHeads", spec := "entryHeads", unfollowed := true, recurses := true, plainKeys := false, apart := false }
def EntryHeadsSaid : Prop := entryHeadsRow.holds Tryz.pinned (OpenSpec.ofChange entryHeadsSpec)

/-- ITS FALSE NEIGHBOUR: 'it returns false'. Refute it at one input. -/
def entryHeadsWrong : ChangeSpec := { name := "entryHeads", fn := fun _ => fun
  | [d1, d2, d3] => { results := [.lit (.bool false)], args := [d1, d2, d3] }
  | _ => none }
def EntryHeadsWrongFalsely : Prop := entryHeadsRow.holds Tryz.pinned (OpenSpec.ofChange entryHeadsWrong)

/-- 'trovelaw14.EntryBack': WHATEVER THE INPUT: true; the input reads as it did. -/
def entryBackSpec : ChangeSpec := { name := "entryBack", fn := fun _ => fun
  | [d1, d2, d3, d4] => { results := [.lit (.bool true)], args := [d1, d2, d3, d4] }
  | _ => none }
def entryBackRow : OpenClaim := { program := "ytejnemneenjliaagreat", sum := "31c49f7e58b41441bd21b5e3db22515052c5aaf6d32e4ca443d340b7226feadb", func := "trove/trovelaw14.EntryBack", spec := "entryBack", unfollowed := true, recurses := true, plainKeys := false, apart := false }
def EntryBackSaid : Prop := entryBackRow.holds Tryz.pinned (OpenSpec.ofChange entryBackSpec)

/-- ITS FALSE NEIGHBOUR: 'it returns false'. Refute it at one input. -/
def entryBackWrong : ChangeSpec := { name := "entryBack", fn := fun _ => fun
  | [d1, d2, d3, d4] => { results := [.lit (.bool false)], args := [d1, d2, d3, d4] }
  | _ => none }
def EntryBackWrongFalsely : Prop := entryBackRow.holds Tryz.pinned (OpenSpec.ofChange entryBackWrong)

/-- 'trovelaw14.EntryRows': WHATEVER THE INPUT: true; the input reads as it did. -/
def entryRowsSpec : ChangeSpec := { name := "entryRows", fn := fun _ => fun
  | [d1, d2] => { results := [.lit (.bool true)], args := [d1, d2] }
  | _ => none }
def entryRowsRow : OpenClaim := { program := "ytejnemneenjliaagreat", sum := "31c49f7e58b41441bd21b5e3db22515052c5aaf6d32e4ca443d340b7226feadb", func := "trove/trovelaw14.EntryRows", spec := "entryRows", unfollowed := true, recurses := true, plainKeys := false, apart := false }
def EntryRowsSaid : Prop := entryRowsRow.holds Tryz.pinned (OpenSpec.ofChange entryRowsSpec)

/-- ITS FALSE NEIGHBOUR: 'it returns false'. Refute it at one input. -/
def entryRowsWrong : ChangeSpec := { name := "entryRows", fn := fun _ => fun
  | [d1, d2] => { results := [.lit (.bool false)], args := [d1, d2] }
  | _ => none }
def EntryRowsWrongFalsely : Prop := entryRowsRow.holds Tryz.pinned (OpenSpec.ofChange entryRowsWrong)

/-- 'trovelaw14.EntryBounds': WHATEVER THE INPUT: true; the input reads as it did. -/
def entryBoundsSpec : ChangeSpec := { name := "entryBounds", fn := fun _ => fun
  | [d1, d2, d3] => { results := [.lit (.bool true)], args := [d1, d2, d3] }
  | _ => none }
def entryBoundsRow : OpenClaim := { program := "ytejnemneenjliaagreat", sum := "31c49f7e58b41441bd21b5e3db22515052c5aaf6d32e4ca443d340b7226feadb", func := "trove/trovelaw14.EntryBounds", spec := "entryBounds", unfollowed := true, recurses := true, plainKeys := false, apart := false }
def EntryBoundsSaid : Prop := entryBoundsRow.holds Tryz.pinned (OpenSpec.ofChange entryBoundsSpec)

/-- ITS FALSE NEIGHBOUR: 'it returns false'. Refute it at one input. -/
def entryBoundsWrong : ChangeSpec := { name := "entryBounds", fn := fun _ => fun
  | [d1, d2, d3] => { results := [.lit (.bool false)], args := [d1, d2, d3] }
  | _ => none }
def EntryBoundsWrongFalsely : Prop := entryBoundsRow.holds Tryz.pinned (OpenSpec.ofChange entryBoundsWrong)

/-- 'trovelaw15.PackBack': WHATEVER THE INPUT: true; the input reads as it did. -/
def packBackSpec : ChangeSpec := { name := "packBack", fn := fun _ => fun
  | [d1, d2] => { results := [.lit (.bool true)], args := [d1, d2] }
  | _ => none }
def packBackRow : OpenClaim := { program := "ytejnemneenjliaagreat", sum := "31c49f7e58b41441bd21b5e3db22515052c5aaf6d32e4ca443d340b7226feadb", func := "trove/trovelaw15.PackBack", spec := "packBack", unfollowed := true, recurses := true, plainKeys := false, apart := false }
def PackBackSaid : Prop := packBackRow.holds Tryz.pinned (OpenSpec.ofChange packBackSpec)

/-- ITS FALSE NEIGHBOUR: 'it returns false'. Refute it at one input. -/
def packBackWrong : ChangeSpec := { name := "packBack", fn := fun _ => fun
  | [d1, d2] => { results := [.lit (.bool false)], args := [d1, d2] }
  | _ => none }
def PackBackWrongFalsely : Prop := packBackRow.holds Tryz.pinned (OpenSpec.ofChange packBackWrong)

/-- 'trovelaw15.PackCounts': WHATEVER THE INPUT: true; the input reads as it did. -/
def packCountsSpec : ChangeSpec := { name := "packCounts", fn := fun _ => fun
  | [d] => { results := [.lit (.bool true)], args := [d] }
  | _ => none }
def packCountsRow : OpenClaim := { program := "ytejnemneenjliaagreat", sum := "31c49f7e58b41441bd21b5e3db22515052c5aaf6d32e4ca443d340b7226feadb", func := "trove/trovelaw15.PackCounts", spec := "packCounts", unfollowed := true, recurses := true, plainKeys := false, apart := false }
def PackCountsSaid : Prop := packCountsRow.holds Tryz.pinned (OpenSpec.ofChange packCountsSpec)

/-- ITS FALSE NEIGHBOUR: 'it returns false'. Refute it at one input. -/
def packCountsWrong : ChangeSpec := { name := "packCounts", fn := fun _ => fun
  | [d] => { results := [.lit (.bool false)], args := [d] }
  | _ => none }
def PackCountsWrongFalsely : Prop := packCountsRow.holds Tryz.pinned (OpenSpec.ofChange packCountsWrong)

/- THE SECOND FORM. 'bulk': how many values and letters a reading holds, each counted each time it is reached (what is shared counts as often as it is met; a slice's spare places count too). A statement '..UptoSaid' is the law's where the arguments, and the package variables that the reading takes, are together of bulk at most 1048576: NARROWER than '..Said'. Prove '..Said' where nothing that the law and all that it calls make is longer than what came in: it says more and counts as full. Else prove '..UptoSaid'. A law counts once. -/
mutual
def uptoBulk {H : Type} : DataW H → Nat
  | .lit (.string bytes) => bytes.length + 1
  | .lit _ => 1
  | .nil => 1
  | .ptr d => uptoBulk d + 1
  | .slice elems spare => uptoBulkAll elems + uptoBulkAll spare + 1
  | .agg parts => uptoBulkAll parts + 1
  | .iface _ d => uptoBulk d + 1
  | .map entries => uptoBulkEntries entries + 1
  | .held _ => 1
def uptoBulkAll {H : Type} : List (DataW H) → Nat
  | [] => 0
  | d :: r => uptoBulk d + uptoBulkAll r
def uptoBulkEntries {H : Type} : List (Lit × DataW H) → Nat
  | [] => 0
  | x :: r => uptoBulkEntry x + uptoBulkEntries r
def uptoBulkEntry {H : Type} : Lit × DataW H → Nat
  | (.string bytes, d) => bytes.length + uptoBulk d + 1
  | (_, d) => uptoBulk d + 1
 end
def uptoSmall : (H : Type) → List (DataW H) → Bool := fun _ ds => decide (uptoBulkAll ds ≤ 1048576)
def OpenSpec.upto (s : _root_.Go.ChangeSpec) : _root_.Go.OpenSpec := { _root_.Go.OpenSpec.ofChange s with cond := some uptoSmall }

/-- 'trovelaw18.MidxOrder', WHERE WHAT IT READS IS OF BULK AT MOST 1048576: true; the input reads as it did. -/
def midxOrderUptoRow : OpenClaim := { program := "ytejnemneenjliaagreat", sum := "31c49f7e58b41441bd21b5e3db22515052c5aaf6d32e4ca443d340b7226feadb", func := "trove/trovelaw18.MidxOrder", spec := "midxOrder", inPlace := ["internal/reflectlite.ValueOf", "internal/reflectlite.Swapper", "(internal/reflectlite.Value).Len", "internal/bytealg.IndexByteString", "internal/bytealg.IndexString", "internal/bytealg.Compare"], unfollowed := true, recurses := true, named := ["internal/bytealg.MaxLen"], plainKeys := false, apart := false, narrowed := true }
def MidxOrderUptoSaid : Prop := midxOrderUptoRow.holds Tryz.pinned (OpenSpec.upto midxOrderSpec)

/-- 'trovelaw18.MidxLeast', WHERE WHAT IT READS IS OF BULK AT MOST 1048576: true; the input reads as it did. -/
def midxLeastUptoRow : OpenClaim := { program := "ytejnemneenjliaagreat", sum := "31c49f7e58b41441bd21b5e3db22515052c5aaf6d32e4ca443d340b7226feadb", func := "trove/trovelaw18.MidxLeast", spec := "midxLeast", inPlace := ["internal/reflectlite.ValueOf", "internal/reflectlite.Swapper", "(internal/reflectlite.Value).Len", "internal/bytealg.IndexByteString", "internal/bytealg.IndexString", "internal/bytealg.Compare"], unfollowed := true, recurses := true, named := ["internal/bytealg.MaxLen"], plainKeys := false, apart := false, narrowed := true }
def MidxLeastUptoSaid : Prop := midxLeastUptoRow.holds Tryz.pinned (OpenSpec.upto midxLeastSpec)

/-- 'trovelaw18.MidxBytes', WHERE WHAT IT READS IS OF BULK AT MOST 1048576: true; the input reads as it did. -/
def midxBytesUptoRow : OpenClaim := { program := "ytejnemneenjliaagreat", sum := "31c49f7e58b41441bd21b5e3db22515052c5aaf6d32e4ca443d340b7226feadb", func := "trove/trovelaw18.MidxBytes", spec := "midxBytes", inPlace := ["internal/reflectlite.ValueOf", "internal/reflectlite.Swapper", "(internal/reflectlite.Value).Len", "internal/bytealg.IndexByteString", "internal/bytealg.IndexString", "internal/bytealg.Compare"], unfollowed := true, recurses := true, named := ["internal/bytealg.MaxLen"], plainKeys := false, apart := false, narrowed := true }
def MidxBytesUptoSaid : Prop := midxBytesUptoRow.holds Tryz.pinned (OpenSpec.upto midxBytesSpec)

/-- 'trovelaw19.GraphBuilds', WHERE WHAT IT READS IS OF BULK AT MOST 1048576: true; the input reads as it did. -/
def graphBuildsUptoRow : OpenClaim := { program := "ytejnemneenjliaagreat", sum := "31c49f7e58b41441bd21b5e3db22515052c5aaf6d32e4ca443d340b7226feadb", func := "trove/trovelaw19.GraphBuilds", spec := "graphBuilds", inPlace := ["internal/bytealg.Compare"], unfollowed := true, recurses := true, plainKeys := false, apart := false, narrowed := true }
def GraphBuildsUptoSaid : Prop := graphBuildsUptoRow.holds Tryz.pinned (OpenSpec.upto graphBuildsSpec)

/-- 'trovelaw19.GraphBytes', WHERE WHAT IT READS IS OF BULK AT MOST 1048576: true; the input reads as it did. -/
def graphBytesUptoRow : OpenClaim := { program := "ytejnemneenjliaagreat", sum := "31c49f7e58b41441bd21b5e3db22515052c5aaf6d32e4ca443d340b7226feadb", func := "trove/trovelaw19.GraphBytes", spec := "graphBytes", inPlace := ["internal/bytealg.Compare"], unfollowed := true, recurses := true, plainKeys := false, apart := false, narrowed := true }
def GraphBytesUptoSaid : Prop := graphBytesUptoRow.holds Tryz.pinned (OpenSpec.upto graphBytesSpec)

/-- 'trovelaw19.GraphCloses', WHERE WHAT IT READS IS OF BULK AT MOST 1048576: true; the input reads as it did. -/
def graphClosesUptoRow : OpenClaim := { program := "ytejnemneenjliaagreat", sum := "31c49f7e58b41441bd21b5e3db22515052c5aaf6d32e4ca443d340b7226feadb", func := "trove/trovelaw19.GraphCloses", spec := "graphCloses", inPlace := ["internal/bytealg.Compare"], unfollowed := true, recurses := true, plainKeys := false, apart := false, narrowed := true }
def GraphClosesUptoSaid : Prop := graphClosesUptoRow.holds Tryz.pinned (OpenSpec.upto graphClosesSpec)

/-- 'trovelaw14.EntryHeads', WHERE WHAT IT READS IS OF BULK AT MOST 1048576: true; the input reads as it did. -/
def entryHeadsUptoRow : OpenClaim := { program := "ytejnemneenjliaagreat", sum := "31c49f7e58b41441bd21b5e3db22515052c5aaf6d32e4ca443d340b7226feadb", func := "trove/trovelaw14.EntryHeads", spec := "entryHeads", unfollowed := true, recurses := true, plainKeys := false, apart := false, narrowed := true }
def EntryHeadsUptoSaid : Prop := entryHeadsUptoRow.holds Tryz.pinned (OpenSpec.upto entryHeadsSpec)

/-- 'trovelaw14.EntryBack', WHERE WHAT IT READS IS OF BULK AT MOST 1048576: true; the input reads as it did. -/
def entryBackUptoRow : OpenClaim := { program := "ytejnemneenjliaagreat", sum := "31c49f7e58b41441bd21b5e3db22515052c5aaf6d32e4ca443d340b7226feadb", func := "trove/trovelaw14.EntryBack", spec := "entryBack", unfollowed := true, recurses := true, plainKeys := false, apart := false, narrowed := true }
def EntryBackUptoSaid : Prop := entryBackUptoRow.holds Tryz.pinned (OpenSpec.upto entryBackSpec)

/-- 'trovelaw14.EntryRows', WHERE WHAT IT READS IS OF BULK AT MOST 1048576: true; the input reads as it did. -/
def entryRowsUptoRow : OpenClaim := { program := "ytejnemneenjliaagreat", sum := "31c49f7e58b41441bd21b5e3db22515052c5aaf6d32e4ca443d340b7226feadb", func := "trove/trovelaw14.EntryRows", spec := "entryRows", unfollowed := true, recurses := true, plainKeys := false, apart := false, narrowed := true }
def EntryRowsUptoSaid : Prop := entryRowsUptoRow.holds Tryz.pinned (OpenSpec.upto entryRowsSpec)

/-- 'trovelaw14.EntryBounds', WHERE WHAT IT READS IS OF BULK AT MOST 1048576: true; the input reads as it did. -/
def entryBoundsUptoRow : OpenClaim := { program := "ytejnemneenjliaagreat", sum := "31c49f7e58b41441bd21b5e3db22515052c5aaf6d32e4ca443d340b7226feadb", func := "trove/trovelaw14.EntryBounds", spec := "entryBounds", unfollowed := true, recurses := true, plainKeys := false, apart := false, narrowed := true }
def EntryBoundsUptoSaid : Prop := entryBoundsUptoRow.holds Tryz.pinned (OpenSpec.upto entryBoundsSpec)

/-- 'trovelaw15.PackBack', WHERE WHAT IT READS IS OF BULK AT MOST 1048576: true; the input reads as it did. -/
def packBackUptoRow : OpenClaim := { program := "ytejnemneenjliaagreat", sum := "31c49f7e58b41441bd21b5e3db22515052c5aaf6d32e4ca443d340b7226feadb", func := "trove/trovelaw15.PackBack", spec := "packBack", unfollowed := true, recurses := true, plainKeys := false, apart := false, narrowed := true }
def PackBackUptoSaid : Prop := packBackUptoRow.holds Tryz.pinned (OpenSpec.upto packBackSpec)

/-- 'trovelaw15.PackCounts', WHERE WHAT IT READS IS OF BULK AT MOST 1048576: true; the input reads as it did. -/
def packCountsUptoRow : OpenClaim := { program := "ytejnemneenjliaagreat", sum := "31c49f7e58b41441bd21b5e3db22515052c5aaf6d32e4ca443d340b7226feadb", func := "trove/trovelaw15.PackCounts", spec := "packCounts", unfollowed := true, recurses := true, plainKeys := false, apart := false, narrowed := true }
def PackCountsUptoSaid : Prop := packCountsUptoRow.holds Tryz.pinned (OpenSpec.upto packCountsSpec)

end Rows
end Go.Proofs.YtejnemneenjliaaGreat
