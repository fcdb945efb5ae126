/-
  No cell of these rows narrows 'for every input' (looked for: loops, veiled, ifaces, maps, wideKeys, modest, calm, conditions, laid).
  DERIVED. THE GIVEN ROWS OF THIS SEAT. 3 by the template 'for every input the law returns true; each argument reads behind the call as it read before'; 0 by the template 'total and deterministic' (their statements: YtonmgkkkiejicaaGreatTotals.lean).
  GIVEN WITH THE SEED: the statements are not yours to turn. If you find one false, say at which input.
  Laid BY PROGRAM, IN A SANDBOX (cutbox-rows.mjs): the forced cells as the released guide's own fill.sh prints them over the translation ac58ad45524ae63a… (all of the seat's roots in one cut). By AI agents, Wed Nov 11 2026. No macro, syntax, notation, axiom, sorry.
-/
import Derived.Test.YtonmgkkkiejicaaGreatChecked
import GoSem.Claim
import GoSem.ClaimJoined
import GoSem.ClaimMapViews
import Derived.JoinedTies
import Derived.KernelRfl
namespace Go.Proofs.YtonmgkkkiejicaaGreat
/- THE CELL 'sum', in the pinned program and in every row, IS THE sha256 OF THE DUMP (.gsa) THAT YtonmgkkkiejicaaGreatProg.lean LOADS. Nothing in Lean hashes anything: it is a label: what it is worth is what the hold of that sum in a sandbox is worth. -/
noncomputable def Tryz.pinned : Pinned := { name := "ytonmgkkkiejicaagreat", sum := "ac58ad45524ae63abf3b4329acb2e8b856581355faf5d1810014128e8d1adf36", checked := Tryz.checked }
namespace Rows
def none {H : Type} : Left H := { results := [], args := [] }

/-- 'trovelaw18.MidxOrder': WHATEVER THE INPUT: true; the input reads as it did. -/
def midxOrderSpec : ChangeSpec := { name := "midxOrder", fn := fun _ => fun
  | [d1, d2] => { results := [.lit (.bool true)], args := [d1, d2] }
  | _ => none }
def midxOrderRow : OpenClaim := { program := "ytonmgkkkiejicaagreat", sum := "ac58ad45524ae63abf3b4329acb2e8b856581355faf5d1810014128e8d1adf36", func := "trove/trovelaw18.MidxOrder", spec := "midxOrder", inPlace := ["internal/reflectlite.ValueOf", "internal/reflectlite.Swapper", "(internal/reflectlite.Value).Len", "internal/bytealg.IndexByteString", "internal/bytealg.IndexString", "internal/bytealg.Compare"], unfollowed := true, recurses := true, named := ["internal/bytealg.MaxLen"], plainKeys := false, apart := false }
def MidxOrderSaid : Prop := midxOrderRow.holds Tryz.pinned (OpenSpec.ofChange midxOrderSpec)

/-- ITS FALSE NEIGHBOUR: 'it returns false'. Refute it at one input. -/
def midxOrderWrong : ChangeSpec := { name := "midxOrder", fn := fun _ => fun
  | [d1, d2] => { results := [.lit (.bool false)], args := [d1, d2] }
  | _ => none }
def MidxOrderWrongFalsely : Prop := midxOrderRow.holds Tryz.pinned (OpenSpec.ofChange midxOrderWrong)

/-- 'trovelaw18.MidxLeast': WHATEVER THE INPUT: true; the input reads as it did. -/
def midxLeastSpec : ChangeSpec := { name := "midxLeast", fn := fun _ => fun
  | [d1, d2, d3] => { results := [.lit (.bool true)], args := [d1, d2, d3] }
  | _ => none }
def midxLeastRow : OpenClaim := { program := "ytonmgkkkiejicaagreat", sum := "ac58ad45524ae63abf3b4329acb2e8b856581355faf5d1810014128e8d1adf36", func := "trove/trovelaw18.MidxLeast", spec := "midxLeast", inPlace := ["internal/reflectlite.ValueOf", "internal/reflectlite.Swapper", "(internal/reflectlite.Value).Len", "internal/bytealg.IndexByteString", "internal/bytealg.IndexString", "internal/bytealg.Compare"], unfollowed := true, recurses := true, named := ["internal/bytealg.MaxLen"], plainKeys := false, apart := false }
def MidxLeastSaid : Prop := midxLeastRow.holds Tryz.pinned (OpenSpec.ofChange midxLeastSpec)

/-- ITS FALSE NEIGHBOUR: 'it returns false'. Refute it at one input. -/
def midxLeastWrong : ChangeSpec := { name := "midxLeast", fn := fun _ => fun
  | [d1, d2, d3] => { results := [.lit (.bool false)], args := [d1, d2, d3] }
  | _ => none }
def MidxLeastWrongFalsely : Prop := midxLeastRow.holds Tryz.pinned (OpenSpec.ofChange midxLeastWrong)

/-- 'trovelaw18.MidxBytes': WHATEVER THE INPUT: true; the input reads as it did. -/
def midxBytesSpec : ChangeSpec := { name := "midxBytes", fn := fun _ => fun
  | [d1, d2] => { results := [.lit (.bool true)], args := [d1, d2] }
  | _ => none }
def midxBytesRow : OpenClaim := { program := "ytonmgkkkiejicaagreat", sum := "ac58ad45524ae63abf3b4329acb2e8b856581355faf5d1810014128e8d1adf36", func := "trove/trovelaw18.MidxBytes", spec := "midxBytes", inPlace := ["internal/reflectlite.ValueOf", "internal/reflectlite.Swapper", "(internal/reflectlite.Value).Len", "internal/bytealg.IndexByteString", "internal/bytealg.IndexString", "internal/bytealg.Compare"], unfollowed := true, recurses := true, named := ["internal/bytealg.MaxLen"], plainKeys := false, apart := false }
def MidxBytesSaid : Prop := midxBytesRow.holds Tryz.pinned (OpenSpec.ofChange midxBytesSpec)

/-- ITS FALSE NEIGHBOUR: 'it returns false'. Refute it at one input. -/
def midxBytesWrong : ChangeSpec := { name := "midxBytes", fn := fun _ => fun
  | [d1, d2] => { results := [.lit (.bool false)], args := [d1, d2] }
  | _ => none }
def MidxBytesWrongFalsely : Prop := midxBytesRow.holds Tryz.pinned (OpenSpec.ofChange midxBytesWrong)

/- THE SECOND FORM. 'bulk': how many values and letters a reading holds, each counted each time it is reached (what is shared counts as often as it is met; a slice's spare places count too). A statement '..UptoSaid' is the law's where the arguments, and the package variables that the reading takes, are together of bulk at most 1048576: NARROWER than '..Said'. Prove '..Said' where nothing that the law and all that it calls make is longer than what came in: it says more and counts as full. Else prove '..UptoSaid'. A law counts once. -/
mutual
def uptoBulk {H : Type} : DataW H → Nat
  | .lit (.string bytes) => bytes.length + 1
  | .lit _ => 1
  | .nil => 1
  | .ptr d => uptoBulk d + 1
  | .slice elems spare => uptoBulkAll elems + uptoBulkAll spare + 1
  | .agg parts => uptoBulkAll parts + 1
  | .iface _ d => uptoBulk d + 1
  | .map entries => uptoBulkEntries entries + 1
  | .held _ => 1
def uptoBulkAll {H : Type} : List (DataW H) → Nat
  | [] => 0
  | d :: r => uptoBulk d + uptoBulkAll r
def uptoBulkEntries {H : Type} : List (Lit × DataW H) → Nat
  | [] => 0
  | x :: r => uptoBulkEntry x + uptoBulkEntries r
def uptoBulkEntry {H : Type} : Lit × DataW H → Nat
  | (.string bytes, d) => bytes.length + uptoBulk d + 1
  | (_, d) => uptoBulk d + 1
 end
def uptoSmall : (H : Type) → List (DataW H) → Bool := fun _ ds => decide (uptoBulkAll ds ≤ 1048576)
def OpenSpec.upto (s : _root_.Go.ChangeSpec) : _root_.Go.OpenSpec := { _root_.Go.OpenSpec.ofChange s with cond := some uptoSmall }

/-- 'trovelaw18.MidxOrder', WHERE WHAT IT READS IS OF BULK AT MOST 1048576: true; the input reads as it did. -/
def midxOrderUptoRow : OpenClaim := { program := "ytonmgkkkiejicaagreat", sum := "ac58ad45524ae63abf3b4329acb2e8b856581355faf5d1810014128e8d1adf36", func := "trove/trovelaw18.MidxOrder", spec := "midxOrder", inPlace := ["internal/reflectlite.ValueOf", "internal/reflectlite.Swapper", "(internal/reflectlite.Value).Len", "internal/bytealg.IndexByteString", "internal/bytealg.IndexString", "internal/bytealg.Compare"], unfollowed := true, recurses := true, named := ["internal/bytealg.MaxLen"], plainKeys := false, apart := false, narrowed := true }
def MidxOrderUptoSaid : Prop := midxOrderUptoRow.holds Tryz.pinned (OpenSpec.upto midxOrderSpec)

/-- 'trovelaw18.MidxLeast', WHERE WHAT IT READS IS OF BULK AT MOST 1048576: true; the input reads as it did. -/
def midxLeastUptoRow : OpenClaim := { program := "ytonmgkkkiejicaagreat", sum := "ac58ad45524ae63abf3b4329acb2e8b856581355faf5d1810014128e8d1adf36", func := "trove/trovelaw18.MidxLeast", spec := "midxLeast", inPlace := ["internal/reflectlite.ValueOf", "internal/reflectlite.Swapper", "(internal/reflectlite.Value).Len", "internal/bytealg.IndexByteString", "internal/bytealg.IndexString", "internal/bytealg.Compare"], unfollowed := true, recurses := true, named := ["internal/bytealg.MaxLen"], plainKeys := false, apart := false, narrowed := true }
def MidxLeastUptoSaid : Prop := midxLeastUptoRow.holds Tryz.pinned (OpenSpec.upto midxLeastSpec)

/-- 'trovelaw18.MidxBytes', WHERE WHAT IT READS IS OF BULK AT MOST 1048576: true; the input reads as it did. -/
def midxBytesUptoRow : OpenClaim := { program := "ytonmgkkkiejicaagreat", sum := "ac58ad45524ae63abf3b4329acb2e8b856581355faf5d1810014128e8d1adf36", func := "trove/trovelaw18.MidxBytes", spec := "midxBytes", inPlace := ["internal/reflectlite.ValueOf", "internal/reflectlite.Swapper", "(internal/reflectlite.Value).Len", "internal/bytealg.IndexByteString", "internal/bytealg.IndexString", "internal/bytealg.Compare"], unfollowed := true, recurses := true, named := ["internal/bytealg.MaxLen"], plainKeys := false, apart := false, narrowed := true }
def MidxBytesUptoSaid : Prop := midxBytesUptoRow.holds Tryz.pinned (OpenSpec.upto midxBytesSpec)

end Rows
end Go.Proofs.YtonmgkkkiejicaaGreat
