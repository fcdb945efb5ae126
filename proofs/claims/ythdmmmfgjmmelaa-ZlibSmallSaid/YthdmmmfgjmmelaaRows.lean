/-
  No cell of these rows narrows 'for every input' (looked for: loops, veiled, ifaces, maps, wideKeys, modest, calm, conditions, laid).
  DERIVED. THE GIVEN ROWS OF THIS SEAT. 6 by the template 'for every input the law returns true; each argument reads behind the call as it read before'; 0 by the template 'total and deterministic' (their statements: YthdmmmfgjmmelaaTotals.lean).
  GIVEN WITH THE SEED: the statements are not yours to turn. If you find one false, say at which input.
  Laid BY PROGRAM, IN A SANDBOX (cutbox-rows.mjs): the forced cells as the released guide's own fill.sh prints them over the translation e6f133568f6d69fb… (all of the seat's roots in one cut). By AI agents, Wed Nov 11 2026. No macro, syntax, notation, axiom, sorry.
-/
import Derived.Test.YthdmmmfgjmmelaaChecked
import GoSem.Claim
import GoSem.ClaimJoined
import GoSem.ClaimMapViews
import Derived.JoinedTies
import Derived.KernelRfl
namespace Go.Proofs.Ythdmmmfgjmmelaa
/- THE CELL 'sum', in the pinned program and in every row, IS THE sha256 OF THE DUMP (.gsa) THAT YthdmmmfgjmmelaaProg.lean LOADS. Nothing in Lean hashes anything: it is a label: what it is worth is what the hold of that sum in a sandbox is worth. -/
noncomputable def Try.pinned : Pinned := { name := "ythdmmmfgjmmelaa", sum := "e6f133568f6d69fb38c1a7e244f8dbf3e425c36802f51e8b6cb168d4e6c3ee76", checked := Try.checked }
namespace Rows
def none {H : Type} : Left H := { results := [], args := [] }

/-- 'trovelaw6.LimitWider': WHATEVER THE INPUT: true; the input reads as it did. -/
def limitWiderSpec : ChangeSpec := { name := "limitWider", fn := fun _ => fun
  | [d1, d2, d3] => { results := [.lit (.bool true)], args := [d1, d2, d3] }
  | _ => none }
def limitWiderRow : OpenClaim := { program := "ythdmmmfgjmmelaa", sum := "e6f133568f6d69fb38c1a7e244f8dbf3e425c36802f51e8b6cb168d4e6c3ee76", func := "trove/trovelaw6.LimitWider", spec := "limitWider", unfollowed := true, recurses := true, plainKeys := false, apart := false }
def LimitWiderSaid : Prop := limitWiderRow.holds Try.pinned (OpenSpec.ofChange limitWiderSpec)

/-- ITS FALSE NEIGHBOUR: 'it returns false'. Refute it at one input. -/
def limitWiderWrong : ChangeSpec := { name := "limitWider", fn := fun _ => fun
  | [d1, d2, d3] => { results := [.lit (.bool false)], args := [d1, d2, d3] }
  | _ => none }
def LimitWiderWrongFalsely : Prop := limitWiderRow.holds Try.pinned (OpenSpec.ofChange limitWiderWrong)

/-- 'trovelaw6.LimitBest': WHATEVER THE INPUT: true; the input reads as it did. -/
def limitBestSpec : ChangeSpec := { name := "limitBest", fn := fun _ => fun
  | [d1, d2] => { results := [.lit (.bool true)], args := [d1, d2] }
  | _ => none }
def limitBestRow : OpenClaim := { program := "ythdmmmfgjmmelaa", sum := "e6f133568f6d69fb38c1a7e244f8dbf3e425c36802f51e8b6cb168d4e6c3ee76", func := "trove/trovelaw6.LimitBest", spec := "limitBest", unfollowed := true, recurses := true, plainKeys := false, apart := false }
def LimitBestSaid : Prop := limitBestRow.holds Try.pinned (OpenSpec.ofChange limitBestSpec)

/-- ITS FALSE NEIGHBOUR: 'it returns false'. Refute it at one input. -/
def limitBestWrong : ChangeSpec := { name := "limitBest", fn := fun _ => fun
  | [d1, d2] => { results := [.lit (.bool false)], args := [d1, d2] }
  | _ => none }
def LimitBestWrongFalsely : Prop := limitBestRow.holds Try.pinned (OpenSpec.ofChange limitBestWrong)

/-- 'trovelaw6.LimitCodes': WHATEVER THE INPUT: true; the input reads as it did. -/
def limitCodesSpec : ChangeSpec := { name := "limitCodes", fn := fun _ => fun
  | [d1, d2] => { results := [.lit (.bool true)], args := [d1, d2] }
  | _ => none }
def limitCodesRow : OpenClaim := { program := "ythdmmmfgjmmelaa", sum := "e6f133568f6d69fb38c1a7e244f8dbf3e425c36802f51e8b6cb168d4e6c3ee76", func := "trove/trovelaw6.LimitCodes", spec := "limitCodes", unfollowed := true, recurses := true, plainKeys := false, apart := false }
def LimitCodesSaid : Prop := limitCodesRow.holds Try.pinned (OpenSpec.ofChange limitCodesSpec)

/-- ITS FALSE NEIGHBOUR: 'it returns false'. Refute it at one input. -/
def limitCodesWrong : ChangeSpec := { name := "limitCodes", fn := fun _ => fun
  | [d1, d2] => { results := [.lit (.bool false)], args := [d1, d2] }
  | _ => none }
def LimitCodesWrongFalsely : Prop := limitCodesRow.holds Try.pinned (OpenSpec.ofChange limitCodesWrong)

/-- 'trovelaw19.GraphGrows': WHATEVER THE INPUT: true; the input reads as it did. -/
def graphGrowsSpec : ChangeSpec := { name := "graphGrows", fn := fun _ => fun
  | [d] => { results := [.lit (.bool true)], args := [d] }
  | _ => none }
def graphGrowsRow : OpenClaim := { program := "ythdmmmfgjmmelaa", sum := "e6f133568f6d69fb38c1a7e244f8dbf3e425c36802f51e8b6cb168d4e6c3ee76", func := "trove/trovelaw19.GraphGrows", spec := "graphGrows", inPlace := ["internal/bytealg.Compare"], unfollowed := true, recurses := true, plainKeys := false, apart := false }
def GraphGrowsSaid : Prop := graphGrowsRow.holds Try.pinned (OpenSpec.ofChange graphGrowsSpec)

/-- ITS FALSE NEIGHBOUR: 'it returns false'. Refute it at one input. -/
def graphGrowsWrong : ChangeSpec := { name := "graphGrows", fn := fun _ => fun
  | [d] => { results := [.lit (.bool false)], args := [d] }
  | _ => none }
def GraphGrowsWrongFalsely : Prop := graphGrowsRow.holds Try.pinned (OpenSpec.ofChange graphGrowsWrong)

/-- 'trovelaw19.GraphMany': WHATEVER THE INPUT: true; the input reads as it did. -/
def graphManySpec : ChangeSpec := { name := "graphMany", fn := fun _ => fun
  | [d1, d2] => { results := [.lit (.bool true)], args := [d1, d2] }
  | _ => none }
def graphManyRow : OpenClaim := { program := "ythdmmmfgjmmelaa", sum := "e6f133568f6d69fb38c1a7e244f8dbf3e425c36802f51e8b6cb168d4e6c3ee76", func := "trove/trovelaw19.GraphMany", spec := "graphMany", inPlace := ["internal/bytealg.Compare"], unfollowed := true, recurses := true, plainKeys := false, apart := false }
def GraphManySaid : Prop := graphManyRow.holds Try.pinned (OpenSpec.ofChange graphManySpec)

/-- ITS FALSE NEIGHBOUR: 'it returns false'. Refute it at one input. -/
def graphManyWrong : ChangeSpec := { name := "graphMany", fn := fun _ => fun
  | [d1, d2] => { results := [.lit (.bool false)], args := [d1, d2] }
  | _ => none }
def GraphManyWrongFalsely : Prop := graphManyRow.holds Try.pinned (OpenSpec.ofChange graphManyWrong)

/-- 'trovelaw9.ZlibSmall': WHATEVER THE INPUT: true; the input reads as it did. -/
def zlibSmallSpec : ChangeSpec := { name := "zlibSmall", fn := fun _ => fun
  | [d1, d2, d3] => { results := [.lit (.bool true)], args := [d1, d2, d3] }
  | _ => none }
def zlibSmallRow : OpenClaim := { program := "ythdmmmfgjmmelaa", sum := "e6f133568f6d69fb38c1a7e244f8dbf3e425c36802f51e8b6cb168d4e6c3ee76", func := "trove/trovelaw9.ZlibSmall", spec := "zlibSmall", unfollowed := true, recurses := true, plainKeys := false, apart := false }
def ZlibSmallSaid : Prop := zlibSmallRow.holds Try.pinned (OpenSpec.ofChange zlibSmallSpec)

/-- ITS FALSE NEIGHBOUR: 'it returns false'. Refute it at one input. -/
def zlibSmallWrong : ChangeSpec := { name := "zlibSmall", fn := fun _ => fun
  | [d1, d2, d3] => { results := [.lit (.bool false)], args := [d1, d2, d3] }
  | _ => none }
def ZlibSmallWrongFalsely : Prop := zlibSmallRow.holds Try.pinned (OpenSpec.ofChange zlibSmallWrong)

/- THE SECOND FORM. 'bulk': how many values and letters a reading holds, each counted each time it is reached (what is shared counts as often as it is met; a slice's spare places count too). A statement '..UptoSaid' is the law's where the arguments, and the package variables that the reading takes, are together of bulk at most 1048576: NARROWER than '..Said'. Prove '..Said' where nothing that the law and all that it calls make is longer than what came in: it says more and counts as full. Else prove '..UptoSaid'. A law counts once. -/
mutual
def uptoBulk {H : Type} : DataW H → Nat
  | .lit (.string bytes) => bytes.length + 1
  | .lit _ => 1
  | .nil => 1
  | .ptr d => uptoBulk d + 1
  | .slice elems spare => uptoBulkAll elems + uptoBulkAll spare + 1
  | .agg parts => uptoBulkAll parts + 1
  | .iface _ d => uptoBulk d + 1
  | .map entries => uptoBulkEntries entries + 1
  | .held _ => 1
def uptoBulkAll {H : Type} : List (DataW H) → Nat
  | [] => 0
  | d :: r => uptoBulk d + uptoBulkAll r
def uptoBulkEntries {H : Type} : List (Lit × DataW H) → Nat
  | [] => 0
  | x :: r => uptoBulkEntry x + uptoBulkEntries r
def uptoBulkEntry {H : Type} : Lit × DataW H → Nat
  | (.string bytes, d) => bytes.length + uptoBulk d + 1
  | (_, d) => uptoBulk d + 1
 end
def uptoSmall : (H : Type) → List (DataW H) → Bool := fun _ ds => decide (uptoBulkAll ds ≤ 1048576)
def OpenSpec.upto (s : _root_.Go.ChangeSpec) : _root_.Go.OpenSpec := { _root_.Go.OpenSpec.ofChange s with cond := some uptoSmall }

/-- 'trovelaw6.LimitWider', WHERE WHAT IT READS IS OF BULK AT MOST 1048576: true; the input reads as it did. -/
def limitWiderUptoRow : OpenClaim := { program := "ythdmmmfgjmmelaa", sum := "e6f133568f6d69fb38c1a7e244f8dbf3e425c36802f51e8b6cb168d4e6c3ee76", func := "trove/trovelaw6.LimitWider", spec := "limitWider", unfollowed := true, recurses := true, plainKeys := false, apart := false, narrowed := true }
def LimitWiderUptoSaid : Prop := limitWiderUptoRow.holds Try.pinned (OpenSpec.upto limitWiderSpec)

/-- 'trovelaw6.LimitBest', WHERE WHAT IT READS IS OF BULK AT MOST 1048576: true; the input reads as it did. -/
def limitBestUptoRow : OpenClaim := { program := "ythdmmmfgjmmelaa", sum := "e6f133568f6d69fb38c1a7e244f8dbf3e425c36802f51e8b6cb168d4e6c3ee76", func := "trove/trovelaw6.LimitBest", spec := "limitBest", unfollowed := true, recurses := true, plainKeys := false, apart := false, narrowed := true }
def LimitBestUptoSaid : Prop := limitBestUptoRow.holds Try.pinned (OpenSpec.upto limitBestSpec)

/-- 'trovelaw6.LimitCodes', WHERE WHAT IT READS IS OF BULK AT MOST 1048576: true; the input reads as it did. -/
def limitCodesUptoRow : OpenClaim := { program := "ythdmmmfgjmmelaa", sum := "e6f133568f6d69fb38c1a7e244f8dbf3e425c36802f51e8b6cb168d4e6c3ee76", func := "trove/trovelaw6.LimitCodes", spec := "limitCodes", unfollowed := true, recurses := true, plainKeys := false, apart := false, narrowed := true }
def LimitCodesUptoSaid : Prop := limitCodesUptoRow.holds Try.pinned (OpenSpec.upto limitCodesSpec)

/-- 'trovelaw19.GraphGrows', WHERE WHAT IT READS IS OF BULK AT MOST 1048576: true; the input reads as it did. -/
def graphGrowsUptoRow : OpenClaim := { program := "ythdmmmfgjmmelaa", sum := "e6f133568f6d69fb38c1a7e244f8dbf3e425c36802f51e8b6cb168d4e6c3ee76", func := "trove/trovelaw19.GraphGrows", spec := "graphGrows", inPlace := ["internal/bytealg.Compare"], unfollowed := true, recurses := true, plainKeys := false, apart := false, narrowed := true }
def GraphGrowsUptoSaid : Prop := graphGrowsUptoRow.holds Try.pinned (OpenSpec.upto graphGrowsSpec)

/-- 'trovelaw19.GraphMany', WHERE WHAT IT READS IS OF BULK AT MOST 1048576: true; the input reads as it did. -/
def graphManyUptoRow : OpenClaim := { program := "ythdmmmfgjmmelaa", sum := "e6f133568f6d69fb38c1a7e244f8dbf3e425c36802f51e8b6cb168d4e6c3ee76", func := "trove/trovelaw19.GraphMany", spec := "graphMany", inPlace := ["internal/bytealg.Compare"], unfollowed := true, recurses := true, plainKeys := false, apart := false, narrowed := true }
def GraphManyUptoSaid : Prop := graphManyUptoRow.holds Try.pinned (OpenSpec.upto graphManySpec)

/-- 'trovelaw9.ZlibSmall', WHERE WHAT IT READS IS OF BULK AT MOST 1048576: true; the input reads as it did. -/
def zlibSmallUptoRow : OpenClaim := { program := "ythdmmmfgjmmelaa", sum := "e6f133568f6d69fb38c1a7e244f8dbf3e425c36802f51e8b6cb168d4e6c3ee76", func := "trove/trovelaw9.ZlibSmall", spec := "zlibSmall", unfollowed := true, recurses := true, plainKeys := false, apart := false, narrowed := true }
def ZlibSmallUptoSaid : Prop := zlibSmallUptoRow.holds Try.pinned (OpenSpec.upto zlibSmallSpec)

end Rows
end Go.Proofs.Ythdmmmfgjmmelaa
