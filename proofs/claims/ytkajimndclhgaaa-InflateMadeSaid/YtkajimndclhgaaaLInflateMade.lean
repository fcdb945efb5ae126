/- A made block is read -/
import Derived.Test.YtkajimndclhgaaaRows
import Derived.WalkKit
import Derived.ProofKit
import Derived.OpenShut
import Derived.ShutString
import Derived.ChangeOld
import Derived.Below
import Derived.Test.YtkajimndclhgaaaInfH
import Derived.Test.YtkajimndclhgaaaOpn
import Derived.Test.YtkajimndclhgaaaFit
namespace Go.Proofs.Ytkajimndclhgaaa.inflateMade
open Go.ChangeShapes Go.WideShapes Go.ChangeAt Go.RowKit
set_option linter.unusedVariables false

set_option maxRecDepth 100000 in
theorem lifted (os : Os) (started : os.Started) (H : Type) (enc : TypeId × Value → H) :
    ReturnsInHanded {} Try.checked os 28 .any (Rows.inflateMadeSpec.pre6 enc Try.prog Try.f28 Rows.inflateMadeRow.domain false) (Rows.inflateMadeSpec.post enc Try.prog Try.f28 false true false false) := by
  refine returnsInHanded_of_change (C := Try.checked) f_own started (by kernel_rfl) Try.func28
    (ChangeSpec.witness6 (enc := enc) (C := Try.checked) false ⟨#[], #[.slice none 0 0], []⟩ 8 (by kernel_rfl) (by kernel_rfl) (by kernel_rfl) (by kernel_rfl)) ?_
  intro W base args ds gs before hval0 hW hcnd _
  have hval : ∀ (j : Nat) t v, Try.f28.params[j]? = some t → args[j]? = some v → Value.okWide Try.prog W .any base t v := hval0
  have hW' := hW
  obtain ⟨p, q, hA0, hV, rfl, hfz, hnd⟩ := hW
  have hA : DataW.TrodAll enc Try.prog W 0 (fun _ => true) true Try.f28.params.toList args.toList ds p := hA0
  rw [Try.params28] at hA hval
  obtain ⟨v0, vs0, d0, ds0, p0, q0, hargs, rfl, rfl, h0, r0⟩ := trodAll_cons hA
  obtain ⟨rfl, rfl, rfl⟩ := trodAll_nil r0
  obtain rfl : args = #[v0] := by cases args; simp_all
  obtain ⟨rfl, rfl⟩ := trodVars_none hV
  obtain ⟨a0, len0, cap0, rfl⟩ := okWide_slice Try.underlying133 (hval 0 133 v0 rfl rfl)
  have k0 := h0
  have lt0 : ∀ x ∈ p0, x.block < W.heap.size := by obtain ⟨m, hm⟩ := k0; exact DataW.trod_lt m _ _ _ hm
  obtain ⟨x0, y0, z0, _⟩ : ∃ xs : List (Int × Int × Int), Rd W 3 ⟨a0, len0, cap0⟩ (tri .u8 .i64 .i64 xs) ∧ (∀ y ∈ xs, (Lit.int .u8 y.1).wf = true ∧ (Lit.int .i64 y.2.1).wf = true ∧ (Lit.int .i64 y.2.2).wf = true) ∧ xs.length = len0 := by
    obtain ⟨fuel, hf⟩ := h0
    exact open_tri (s := ⟨a0, len0, cap0⟩) Try.underlying133 Try.underlying140 (by kernel_rfl) ⟨rfl, rfl, rfl⟩ ⟨by kernel_rfl, by kernel_rfl, by kernel_rfl⟩ Try.underlying5 Try.underlying3 Try.underlying3 hf
  clear hA0 hval0
  simp only [List.append_nil] at hW'
  refine (trovelaw7_InflateMade.law ⟨a0, len0, cap0⟩ x0 W y0 z0).mono fun e W' h => ?_
  have bel : Below W.heap.size W W' := h.2.below (Nat.le_refl _) (by simp)
  obtain rfl := h.1
  exact ⟨_, rfl, _, _, _, [], _, [], hW', trodAll_mk1 (shut_bool Try.underlying4 _), (trodAll_cons_mk (Below.trod f_laid (by kernel_rfl) (of_decide_eq_true (by kernel_rfl)) k0 bel lt0) trodAll_mk0), rfl, bel.frame _, fun h => by cases h⟩

theorem k1 : Rows.inflateMadeRow.wf (OpenSpec.ofChange Rows.inflateMadeSpec) = true := by kernel_rfl
theorem k4 : Try.f28.params.all (Try.prog.readableRec ·) = true := by kernel_rfl
theorem k5 : namedTie Try.prog Rows.inflateMadeRow.named Rows.inflateMadeSpec.vars = true := by kernel_rfl
theorem k10 : (Rows.inflateMadeRow.inPlace == Try.prog.inPlace 28) = true := by kernel_rfl
theorem k11 : (Rows.inflateMadeRow.unfollowed == Try.prog.unfollowed 28) = true := by kernel_rfl
theorem k12 : (Rows.inflateMadeRow.recurses == Try.prog.recurses 28) = true := by kernel_rfl
theorem k13 : (Rows.inflateMadeRow.named == Try.prog.varsNamed 28) = true := by kernel_rfl
theorem k14 : (Rows.inflateMadeRow.maps == (Try.f28.params.toList ++ Rows.inflateMadeSpec.plain.varTypes Try.prog).any (Try.prog.mapsRec ·)) = true := by kernel_rfl
theorem k15 : (Rows.inflateMadeRow.ifaces == (Try.f28.params.toList ++ Rows.inflateMadeSpec.plain.varTypes Try.prog).any (Try.prog.ifacesRec ·)) = true := by kernel_rfl
theorem k16 : (Rows.inflateMadeRow.mapsOut == Try.prog.mapsAmong Try.f28.resultTypes.toList) = true := by kernel_rfl
theorem k17 : (Rows.inflateMadeRow.loops == (Try.f28.params.toList ++ Rows.inflateMadeSpec.plain.varTypes Try.prog).any (Try.prog.loopsFrom ·)) = true := by kernel_rfl
theorem k18 : (Rows.inflateMadeRow.wideKeys == (Try.f28.params.toList ++ Rows.inflateMadeSpec.plain.varTypes Try.prog ++ Try.f28.resultTypes.toList).any (Try.prog.wideKeysFrom ·)) = true := by kernel_rfl
theorem k19 : Rows.inflateMadeSpec.vars.all (Try.prog.varReadable ·) = true := by kernel_rfl
theorem k20 : Try.f28.resultTypes.all (fun t => Try.prog.readableRec t && decide (t < Try.prog.types.size)) = true := by kernel_rfl
theorem k21 : (Rows.inflateMadeRow.ifacesOut == Try.f28.resultTypes.toList.any (Try.prog.ifacesRec ·)) = true := by kernel_rfl
theorem k22 : (Rows.inflateMadeRow.loopsOut == Try.f28.resultTypes.toList.any (Try.prog.loopsFrom ·)) = true := by kernel_rfl
theorem k23 : (Rows.inflateMadeRow.plainKeys == Try.prog.plainKeys) = true := by kernel_rfl
theorem k29 : (Rows.inflateMadeRow.kinds == (if Rows.inflateMadeRow.domain.isEmpty then [] else Try.f28.params.toList.map fun t => match Try.prog.underlying t with | some (.int k) => some k | _ => none)) = true := by kernel_rfl
theorem k31 : (Rows.inflateMadeRow.veiled == (Try.f28.params.toList ++ Rows.inflateMadeSpec.plain.varTypes Try.prog ++ Try.f28.resultTypes.toList).any (Try.prog.veiledRec ·)) = true := by kernel_rfl
theorem k32 : Rows.inflateMadeRow.veiledFits Try.prog Try.f28.params.toList (Try.f28.params.toList ++ Rows.inflateMadeSpec.plain.varTypes Try.prog ++ Try.f28.resultTypes.toList) = true := by kernel_rfl
set_option maxRecDepth 100000 in
theorem closed : joinedFacts Try.prog 28 Try.f28 Rows.inflateMadeSpec Rows.inflateMadeRow = true :=
  joined_of k1 f_laid f_maps k4 k5 (by kernel_rfl) f_stops (by kernel_rfl) f_knobs k10 k11 k12 k13 k14 k15 k16 k17 k18 k19 k20 k21 k22 k23 (by kernel_rfl) f_heard f_enter (by rw [f_lifts]; kernel_rfl) (by rw [f_make]; kernel_rfl) k29 (by kernel_rfl) k31 k32

theorem over : Rows.inflateMadeRow.holds Try.pinned (OpenSpec.ofChange Rows.inflateMadeSpec) :=
  OpenClaim.holds_of_wide 28 Try.f28 rfl rfl rfl rfl rfl rfl rfl ⟨rfl, rfl, rfl, rfl, rfl⟩ rfl rfl rfl rfl rfl (by kernel_rfl) Try.func28 closed
    (of_decide_eq_true (by kernel_rfl)) (by unfold Func.isWrapper; first | (rw [if_pos (by decide +kernel)]; kernel_rfl) | (rw [if_neg (by decide +kernel)]; exact ⟨rfl, rfl⟩))
    (fun os started H enc _ => lifted os started H enc)

theorem proved : Rows.InflateMadeSaid := over
end Go.Proofs.Ytkajimndclhgaaa.inflateMade
