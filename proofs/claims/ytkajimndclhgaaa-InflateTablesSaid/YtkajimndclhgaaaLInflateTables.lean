/- The fixed codes, what symbols say -/
import Derived.Test.YtkajimndclhgaaaRows
import Derived.WalkKit
import Derived.ProofKit
import Derived.OpenShut
import Derived.ShutString
import Derived.ChangeOld
import Derived.Below
import Derived.Test.YtkajimndclhgaaaInfH
import Derived.Test.YtkajimndclhgaaaOpn
import Derived.Test.YtkajimndclhgaaaFit
namespace Go.Proofs.Ytkajimndclhgaaa.inflateTables
open Go.ChangeShapes Go.WideShapes Go.ChangeAt Go.RowKit
set_option linter.unusedVariables false

set_option maxRecDepth 100000 in
theorem lifted (os : Os) (started : os.Started) (H : Type) (enc : TypeId × Value → H) :
    ReturnsInHanded {} Try.checked os 27 .any (Rows.inflateTablesSpec.pre6 enc Try.prog Try.f27 Rows.inflateTablesRow.domain false) (Rows.inflateTablesSpec.post enc Try.prog Try.f27 false true false false) := by
  refine returnsInHanded_of_change (C := Try.checked) f_own started (by kernel_rfl) Try.func27
    (ChangeSpec.witness6 (enc := enc) (C := Try.checked) false ⟨#[], #[.int .i64 0], []⟩ 8 (by kernel_rfl) (by kernel_rfl) (by kernel_rfl) (by kernel_rfl)) ?_
  intro W base args ds gs before hval0 hW hcnd _
  have hval : ∀ (j : Nat) t v, Try.f27.params[j]? = some t → args[j]? = some v → Value.okWide Try.prog W .any base t v := hval0
  have hW' := hW
  obtain ⟨p, q, hA0, hV, rfl, hfz, hnd⟩ := hW
  have hA : DataW.TrodAll enc Try.prog W 0 (fun _ => true) true Try.f27.params.toList args.toList ds p := hA0
  rw [Try.params27] at hA hval
  obtain ⟨v0, vs0, d0, ds0, p0, q0, hargs, rfl, rfl, h0, r0⟩ := trodAll_cons hA
  obtain ⟨rfl, rfl, rfl⟩ := trodAll_nil r0
  obtain rfl : args = #[v0] := by cases args; simp_all
  obtain ⟨rfl, rfl⟩ := trodVars_none hV
  obtain ⟨a0, rfl, rfl, rfl, w0⟩ := open_int Try.underlying3 (hval 0 3 v0 rfl rfl) h0
  clear hA0 hval0
  simp only [List.append_nil] at hW'
  refine (trovelaw7_InflateTables.law a0 W).mono fun e W' h => ?_
  have bel : Below W.heap.size W W' := h.2.below (Nat.le_refl _) (by simp)
  obtain rfl := h.1
  exact ⟨_, rfl, _, _, _, [], _, [], hW', trodAll_mk1 (shut_bool Try.underlying4 _), (trodAll_cons_mk (shut_int Try.underlying3 w0) trodAll_mk0), rfl, bel.frame _, fun h => by cases h⟩

theorem k1 : Rows.inflateTablesRow.wf (OpenSpec.ofChange Rows.inflateTablesSpec) = true := by kernel_rfl
theorem k4 : Try.f27.params.all (Try.prog.readableRec ·) = true := by kernel_rfl
theorem k5 : namedTie Try.prog Rows.inflateTablesRow.named Rows.inflateTablesSpec.vars = true := by kernel_rfl
theorem k10 : (Rows.inflateTablesRow.inPlace == Try.prog.inPlace 27) = true := by kernel_rfl
theorem k11 : (Rows.inflateTablesRow.unfollowed == Try.prog.unfollowed 27) = true := by kernel_rfl
theorem k12 : (Rows.inflateTablesRow.recurses == Try.prog.recurses 27) = true := by kernel_rfl
theorem k13 : (Rows.inflateTablesRow.named == Try.prog.varsNamed 27) = true := by kernel_rfl
theorem k14 : (Rows.inflateTablesRow.maps == (Try.f27.params.toList ++ Rows.inflateTablesSpec.plain.varTypes Try.prog).any (Try.prog.mapsRec ·)) = true := by kernel_rfl
theorem k15 : (Rows.inflateTablesRow.ifaces == (Try.f27.params.toList ++ Rows.inflateTablesSpec.plain.varTypes Try.prog).any (Try.prog.ifacesRec ·)) = true := by kernel_rfl
theorem k16 : (Rows.inflateTablesRow.mapsOut == Try.prog.mapsAmong Try.f27.resultTypes.toList) = true := by kernel_rfl
theorem k17 : (Rows.inflateTablesRow.loops == (Try.f27.params.toList ++ Rows.inflateTablesSpec.plain.varTypes Try.prog).any (Try.prog.loopsFrom ·)) = true := by kernel_rfl
theorem k18 : (Rows.inflateTablesRow.wideKeys == (Try.f27.params.toList ++ Rows.inflateTablesSpec.plain.varTypes Try.prog ++ Try.f27.resultTypes.toList).any (Try.prog.wideKeysFrom ·)) = true := by kernel_rfl
theorem k19 : Rows.inflateTablesSpec.vars.all (Try.prog.varReadable ·) = true := by kernel_rfl
theorem k20 : Try.f27.resultTypes.all (fun t => Try.prog.readableRec t && decide (t < Try.prog.types.size)) = true := by kernel_rfl
theorem k21 : (Rows.inflateTablesRow.ifacesOut == Try.f27.resultTypes.toList.any (Try.prog.ifacesRec ·)) = true := by kernel_rfl
theorem k22 : (Rows.inflateTablesRow.loopsOut == Try.f27.resultTypes.toList.any (Try.prog.loopsFrom ·)) = true := by kernel_rfl
theorem k23 : (Rows.inflateTablesRow.plainKeys == Try.prog.plainKeys) = true := by kernel_rfl
theorem k29 : (Rows.inflateTablesRow.kinds == (if Rows.inflateTablesRow.domain.isEmpty then [] else Try.f27.params.toList.map fun t => match Try.prog.underlying t with | some (.int k) => some k | _ => none)) = true := by kernel_rfl
theorem k31 : (Rows.inflateTablesRow.veiled == (Try.f27.params.toList ++ Rows.inflateTablesSpec.plain.varTypes Try.prog ++ Try.f27.resultTypes.toList).any (Try.prog.veiledRec ·)) = true := by kernel_rfl
theorem k32 : Rows.inflateTablesRow.veiledFits Try.prog Try.f27.params.toList (Try.f27.params.toList ++ Rows.inflateTablesSpec.plain.varTypes Try.prog ++ Try.f27.resultTypes.toList) = true := by kernel_rfl
set_option maxRecDepth 100000 in
theorem closed : joinedFacts Try.prog 27 Try.f27 Rows.inflateTablesSpec Rows.inflateTablesRow = true :=
  joined_of k1 f_laid f_maps k4 k5 (by kernel_rfl) f_stops (by kernel_rfl) f_knobs k10 k11 k12 k13 k14 k15 k16 k17 k18 k19 k20 k21 k22 k23 (by kernel_rfl) f_heard f_enter (by rw [f_lifts]; kernel_rfl) (by rw [f_make]; kernel_rfl) k29 (by kernel_rfl) k31 k32

theorem over : Rows.inflateTablesRow.holds Try.pinned (OpenSpec.ofChange Rows.inflateTablesSpec) :=
  OpenClaim.holds_of_wide 27 Try.f27 rfl rfl rfl rfl rfl rfl rfl ⟨rfl, rfl, rfl, rfl, rfl⟩ rfl rfl rfl rfl rfl (by kernel_rfl) Try.func27 closed
    (of_decide_eq_true (by kernel_rfl)) (by unfold Func.isWrapper; first | (rw [if_pos (by decide +kernel)]; kernel_rfl) | (rw [if_neg (by decide +kernel)]; exact ⟨rfl, rfl⟩))
    (fun os started H enc _ => lifted os started H enc)

theorem proved : Rows.InflateTablesSaid := over
end Go.Proofs.Ytkajimndclhgaaa.inflateTables
