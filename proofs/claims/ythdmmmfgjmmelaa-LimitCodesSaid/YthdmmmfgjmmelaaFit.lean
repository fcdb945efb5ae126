/- Closed facts of the program, out of its text's first row: a way for a row with many names. Own work. -/
import Derived.Test.YthdmmmfgjmmelaaRows
import Derived.ProofKit
namespace Go.Proofs.Ythdmmmfgjmmelaa
open Go Go.ChangeShapes Go.WideShapes Go.ChangeAt Go.RowKit
set_option maxRecDepth 100000
set_option linter.unusedSimpArgs false
set_option linter.unusedVariables false

theorem strip_cut (rest : List (List Char)) : stripLifts liftWords ("cut".toList :: rest) = ([], "cut".toList :: rest) := by rfl

theorem make_of (P : Program) (rest : List (List Char)) (h : behindMainWord (wordsSigns P.initOrder.toList) = "cut".toList :: rest) : P.make = some .cut := by
  unfold Program.make
  rw [h]
  rfl

theorem lifts_of (P : Program) (rest : List (List Char)) (h : behindMainWord (wordsSigns P.initOrder.toList) = "cut".toList :: rest) : P.liftsFinal = false := by
  unfold Program.liftsFinal Program.headLifts
  rw [h, strip_cut]
  rfl

theorem enter_of (P : Program) (rest : List (List Char)) (h : behindMainWord (wordsSigns P.initOrder.toList) = "cut".toList :: rest) (h1 : P.laysLater = false) (h2 : P.bearsReflect = false) (h3 : P.doorRows = []) : P.mayEnter = true := by
  unfold Program.mayEnter
  rw [h]
  simp only [strip_cut, h1, h2]
  unfold Program.doorFits
  rw [h3]
  rfl

theorem joined_of {P : Program} {f : FuncId} {fn : Func} {s : ChangeSpec} {c : OpenClaim}
    (k1 : c.wf (OpenSpec.ofChange s) = true) (k2 : laidOutB P = true) (k3 : mapsRowed P = true) (k4 : fn.params.all (P.readableRec ·) = true) (k5 : namedTie P c.named s.vars = true)
    (k6 : (c.stops == []) = true) (k7 : (P.stops == []) = true) (k8 : (c.knobs == []) = true) (k9 : (P.stopKnobs == []) = true)
    (k10 : (c.inPlace == P.inPlace f) = true) (k11 : (c.unfollowed == P.unfollowed f) = true) (k12 : (c.recurses == P.recurses f) = true) (k13 : (c.named == P.varsNamed f) = true)
    (k14 : (c.maps == (fn.params.toList ++ s.plain.varTypes P).any (P.mapsRec ·)) = true) (k15 : (c.ifaces == (fn.params.toList ++ s.plain.varTypes P).any (P.ifacesRec ·)) = true) (k16 : (c.mapsOut == P.mapsAmong fn.resultTypes.toList) = true)
    (k17 : (c.loops == (fn.params.toList ++ s.plain.varTypes P).any (P.loopsFrom ·)) = true) (k18 : (c.wideKeys == (fn.params.toList ++ s.plain.varTypes P ++ fn.resultTypes.toList).any (P.wideKeysFrom ·)) = true)
    (k19 : s.vars.all (P.varReadable ·) = true) (k20 : fn.resultTypes.all (fun t => P.readableRec t && decide (t < P.types.size)) = true) (k21 : (c.ifacesOut == fn.resultTypes.toList.any (P.ifacesRec ·)) = true) (k22 : (c.loopsOut == fn.resultTypes.toList.any (P.loopsFrom ·)) = true)
    (k23 : (c.plainKeys == P.plainKeys) = true) (k24 : c.shortTexts.isNone = true) (k25 : P.stopsHeard = true) (k26 : P.mayEnter = true) (k27 : (c.lifted == P.liftsFinal) = true) (k28 : (P.make == some c.make) = true)
    (k29 : (c.kinds == (if c.domain.isEmpty then [] else fn.params.toList.map fun t => match P.underlying t with | some (.int k) => some k | _ => none)) = true) (k30 : (c.pinned == c.pinnedBy) = true)
    (k31 : (c.veiled == (fn.params.toList ++ s.plain.varTypes P ++ fn.resultTypes.toList).any (P.veiledRec ·)) = true) (k32 : c.veiledFits P fn.params.toList (fn.params.toList ++ s.plain.varTypes P ++ fn.resultTypes.toList) = true) : joinedFacts P f fn s c = true := by
  unfold joinedFacts
  rw [k1, k2, k3, k4, k5, k6, k7, k8, k9, k10, k11, k12, k13, k14, k15, k16, k17, k18, k19, k20, k21, k22, k23, k24, k25, k26, k27, k28, k30, k31, k32]
  simp only [Bool.true_and, Bool.and_true]
  exact k29

theorem head_ex {α : Type} {a : α} {l : List α} (h : l.head? = some a) : ∃ r, l = a :: r := by
  cases l with
  | nil => cases h
  | cons b r => simp at h; subst h; exact ⟨r, rfl⟩

theorem init_eq : Try.prog.initOrder = String.ofList (List.map Char.ofNat [104, 97, 114, 110, 101, 115, 115, 32, 56, 56, 102, 56, 54, 99, 99, 97, 50, 101, 49, 53, 54, 52, 57, 48, 54, 55, 53, 97, 56, 50, 99, 53, 102, 98, 97, 101, 48, 52, 57, 98, 51, 54, 51, 54, 55, 55, 55, 50, 48, 97, 49, 101, 48, 100, 102, 49, 98, 50, 49, 55, 98, 98, 49, 53, 97, 54, 99, 52, 102, 57, 48, 49, 32, 99, 117, 116, 32, 97, 116, 32, 116, 114, 111, 118, 101, 47, 116, 114, 111, 118, 101, 108, 97, 119, 54, 46, 76, 105, 109, 105, 116, 87, 105, 100, 101, 114, 32, 116, 114, 111, 118, 101, 47, 116, 114, 111, 118, 101, 108, 97, 119, 54, 46, 76, 105, 109, 105, 116, 66, 101, 115, 116, 32, 116, 114, 111, 118, 101, 47, 116, 114, 111, 118, 101, 108, 97, 119, 54, 46, 76, 105, 109, 105, 116, 67, 111, 100, 101, 115, 32, 116, 114, 111, 118, 101, 47, 116, 114, 111, 118, 101, 108, 97, 119, 49, 57, 46, 71, 114, 97, 112, 104, 71, 114, 111, 119, 115, 32, 116, 114, 111, 118, 101, 47, 116, 114, 111, 118, 101, 108, 97, 119, 49, 57, 46, 71, 114, 97, 112, 104, 77, 97, 110, 121, 32, 116, 114, 111, 118, 101, 47, 116, 114, 111, 118, 101, 108, 97, 119, 57, 46, 90, 108, 105, 98, 83, 109, 97, 108, 108]) := by kernel_rfl
theorem init_words : ∃ rest, behindMainWord (wordsSigns Try.prog.initOrder.toList) = "cut".toList :: rest := by
  rw [init_eq, String.toList_ofList]
  exact head_ex (by kernel_rfl)
theorem f_make : Try.prog.make = some .cut := by
  obtain ⟨r, h⟩ := init_words
  exact make_of _ r h
theorem f_lifts : Try.prog.liftsFinal = false := by
  obtain ⟨r, h⟩ := init_words
  exact lifts_of _ r h
theorem f_later : Try.prog.laysLater = false := by kernel_rfl
theorem f_refl : Try.prog.bearsReflect = false := by kernel_rfl
theorem f_doors : Try.prog.doorRows = [] := by kernel_rfl
theorem f_enter : Try.prog.mayEnter = true := by
  obtain ⟨r, h⟩ := init_words
  exact enter_of _ r h f_later f_refl f_doors
theorem f_laid : laidOutB Try.prog = true := by kernel_rfl
theorem f_maps : mapsRowed Try.prog = true := by kernel_rfl
theorem f_stops : (Try.prog.stops == []) = true := by kernel_rfl
theorem f_knobs : (Try.prog.stopKnobs == []) = true := by kernel_rfl
theorem f_heard : Try.prog.stopsHeard = true := by kernel_rfl
theorem f_own : ownKnob Try.prog.godebug = none := by kernel_rfl
end Go.Proofs.Ythdmmmfgjmmelaa
