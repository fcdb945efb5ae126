/-
  No cell of these rows narrows 'for every input' (looked for: loops, veiled, ifaces, maps, wideKeys, modest, calm, conditions, laid).
  DERIVED. THE GIVEN ROWS OF THIS SEAT. 2 by the template 'for every input the law returns true; each argument reads behind the call as it read before'; 0 by the template 'total and deterministic' (their statements: YtdccpphmkfaioaaGreatTotals.lean).
  GIVEN WITH THE SEED: the statements are not yours to turn. If you find one false, say at which input.
  Laid BY PROGRAM, IN A SANDBOX (cutbox-rows.mjs): the forced cells as the released guide's own fill.sh prints them over the translation 0850fa64bef5b0ec… (all of the seat's roots in one cut). By AI agents, Wed Nov 11 2026. No macro, syntax, notation, axiom, sorry.
-/
import Derived.Test.YtdccpphmkfaioaaGreatChecked
import GoSem.Claim
import GoSem.ClaimJoined
import GoSem.ClaimMapViews
import Derived.JoinedTies
import Derived.KernelRfl
namespace Go.Proofs.YtdccpphmkfaioaaGreat
/- THE CELL 'sum', in the pinned program and in every row, IS THE sha256 OF THE DUMP (.gsa) THAT YtdccpphmkfaioaaGreatProg.lean LOADS. Nothing in Lean hashes anything: it is a label: what it is worth is what the hold of that sum in a sandbox is worth. -/
noncomputable def Tryz.pinned : Pinned := { name := "ytdccpphmkfaioaagreat", sum := "0850fa64bef5b0ec313cfb9668339c2d5b694d1cd47e0f36187d877a47bebe23", checked := Tryz.checked }
namespace Rows
def none {H : Type} : Left H := { results := [], args := [] }

/-- 'trovelaw15.PackBack': WHATEVER THE INPUT: true; the input reads as it did. -/
def packBackSpec : ChangeSpec := { name := "packBack", fn := fun _ => fun
  | [d1, d2] => { results := [.lit (.bool true)], args := [d1, d2] }
  | _ => none }
def packBackRow : OpenClaim := { program := "ytdccpphmkfaioaagreat", sum := "0850fa64bef5b0ec313cfb9668339c2d5b694d1cd47e0f36187d877a47bebe23", func := "trove/trovelaw15.PackBack", spec := "packBack", unfollowed := true, recurses := true, plainKeys := false, apart := false }
def PackBackSaid : Prop := packBackRow.holds Tryz.pinned (OpenSpec.ofChange packBackSpec)

/-- ITS FALSE NEIGHBOUR: 'it returns false'. Refute it at one input. -/
def packBackWrong : ChangeSpec := { name := "packBack", fn := fun _ => fun
  | [d1, d2] => { results := [.lit (.bool false)], args := [d1, d2] }
  | _ => none }
def PackBackWrongFalsely : Prop := packBackRow.holds Tryz.pinned (OpenSpec.ofChange packBackWrong)

/-- 'trovelaw15.PackCounts': WHATEVER THE INPUT: true; the input reads as it did. -/
def packCountsSpec : ChangeSpec := { name := "packCounts", fn := fun _ => fun
  | [d] => { results := [.lit (.bool true)], args := [d] }
  | _ => none }
def packCountsRow : OpenClaim := { program := "ytdccpphmkfaioaagreat", sum := "0850fa64bef5b0ec313cfb9668339c2d5b694d1cd47e0f36187d877a47bebe23", func := "trove/trovelaw15.PackCounts", spec := "packCounts", unfollowed := true, recurses := true, plainKeys := false, apart := false }
def PackCountsSaid : Prop := packCountsRow.holds Tryz.pinned (OpenSpec.ofChange packCountsSpec)

/-- ITS FALSE NEIGHBOUR: 'it returns false'. Refute it at one input. -/
def packCountsWrong : ChangeSpec := { name := "packCounts", fn := fun _ => fun
  | [d] => { results := [.lit (.bool false)], args := [d] }
  | _ => none }
def PackCountsWrongFalsely : Prop := packCountsRow.holds Tryz.pinned (OpenSpec.ofChange packCountsWrong)

/- THE SECOND FORM. 'bulk': how many values and letters a reading holds, each counted each time it is reached (what is shared counts as often as it is met; a slice's spare places count too). A statement '..UptoSaid' is the law's where the arguments, and the package variables that the reading takes, are together of bulk at most 1048576: NARROWER than '..Said'. Prove '..Said' where nothing that the law and all that it calls make is longer than what came in: it says more and counts as full. Else prove '..UptoSaid'. A law counts once. -/
mutual
def uptoBulk {H : Type} : DataW H → Nat
  | .lit (.string bytes) => bytes.length + 1
  | .lit _ => 1
  | .nil => 1
  | .ptr d => uptoBulk d + 1
  | .slice elems spare => uptoBulkAll elems + uptoBulkAll spare + 1
  | .agg parts => uptoBulkAll parts + 1
  | .iface _ d => uptoBulk d + 1
  | .map entries => uptoBulkEntries entries + 1
  | .held _ => 1
def uptoBulkAll {H : Type} : List (DataW H) → Nat
  | [] => 0
  | d :: r => uptoBulk d + uptoBulkAll r
def uptoBulkEntries {H : Type} : List (Lit × DataW H) → Nat
  | [] => 0
  | x :: r => uptoBulkEntry x + uptoBulkEntries r
def uptoBulkEntry {H : Type} : Lit × DataW H → Nat
  | (.string bytes, d) => bytes.length + uptoBulk d + 1
  | (_, d) => uptoBulk d + 1
 end
def uptoSmall : (H : Type) → List (DataW H) → Bool := fun _ ds => decide (uptoBulkAll ds ≤ 1048576)
def OpenSpec.upto (s : _root_.Go.ChangeSpec) : _root_.Go.OpenSpec := { _root_.Go.OpenSpec.ofChange s with cond := some uptoSmall }

/-- 'trovelaw15.PackBack', WHERE WHAT IT READS IS OF BULK AT MOST 1048576: true; the input reads as it did. -/
def packBackUptoRow : OpenClaim := { program := "ytdccpphmkfaioaagreat", sum := "0850fa64bef5b0ec313cfb9668339c2d5b694d1cd47e0f36187d877a47bebe23", func := "trove/trovelaw15.PackBack", spec := "packBack", unfollowed := true, recurses := true, plainKeys := false, apart := false, narrowed := true }
def PackBackUptoSaid : Prop := packBackUptoRow.holds Tryz.pinned (OpenSpec.upto packBackSpec)

/-- 'trovelaw15.PackCounts', WHERE WHAT IT READS IS OF BULK AT MOST 1048576: true; the input reads as it did. -/
def packCountsUptoRow : OpenClaim := { program := "ytdccpphmkfaioaagreat", sum := "0850fa64bef5b0ec313cfb9668339c2d5b694d1cd47e0f36187d877a47bebe23", func := "trove/trovelaw15.PackCounts", spec := "packCounts", unfollowed := true, recurses := true, plainKeys := false, apart := false, narrowed := true }
def PackCountsUptoSaid : Prop := packCountsUptoRow.holds Tryz.pinned (OpenSpec.upto packCountsSpec)

end Rows
end Go.Proofs.YtdccpphmkfaioaaGreat
