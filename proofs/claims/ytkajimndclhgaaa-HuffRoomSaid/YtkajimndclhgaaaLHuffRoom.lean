/- A code of one length is full just if its bits use all room, with one symbol less there is some left, with one more it is too much; for any depth from 1 to 8 and any symbol of it (others are let through). -/
import Derived.Test.YtkajimndclhgaaaRows
import Derived.WalkKit
import Derived.ProofKit
import Derived.OpenShut
import Derived.ShutString
import Derived.ChangeOld
import Derived.Below
import Derived.Test.YtkajimndclhgaaaHuffE
import Derived.Test.YtkajimndclhgaaaOpn
import Derived.Test.YtkajimndclhgaaaFit
namespace Go.Proofs.Ytkajimndclhgaaa.huffRoom
open Go.ChangeShapes Go.WideShapes Go.ChangeAt Go.RowKit
set_option linter.unusedVariables false

set_option maxRecDepth 100000 in
theorem lifted (os : Os) (started : os.Started) (H : Type) (enc : TypeId × Value → H) :
    ReturnsInHanded {} Try.checked os 21 .any (Rows.huffRoomSpec.pre6 enc Try.prog Try.f21 Rows.huffRoomRow.domain false) (Rows.huffRoomSpec.post enc Try.prog Try.f21 false true false false) := by
  refine returnsInHanded_of_change (C := Try.checked) f_own started (by kernel_rfl) Try.func21
    (ChangeSpec.witness6 (enc := enc) (C := Try.checked) false ⟨#[], #[.int .i64 0, .int .i64 0], []⟩ 8 (by kernel_rfl) (by kernel_rfl) (by kernel_rfl) (by kernel_rfl)) ?_
  intro W base args ds gs before hval0 hW hcnd _
  have hval : ∀ (j : Nat) t v, Try.f21.params[j]? = some t → args[j]? = some v → Value.okWide Try.prog W .any base t v := hval0
  have hW' := hW
  obtain ⟨p, q, hA0, hV, rfl, hfz, hnd⟩ := hW
  have hA : DataW.TrodAll enc Try.prog W 0 (fun _ => true) true Try.f21.params.toList args.toList ds p := hA0
  rw [Try.params21] at hA hval
  obtain ⟨v0, vs0, d0, ds0, p0, q0, hargs, rfl, rfl, h0, r0⟩ := trodAll_cons hA
  obtain ⟨v1, vs1, d1, ds1, p1, q1, rfl, rfl, rfl, h1, r1⟩ := trodAll_cons r0
  obtain ⟨rfl, rfl, rfl⟩ := trodAll_nil r1
  obtain rfl : args = #[v0, v1] := by cases args; simp_all
  obtain ⟨rfl, rfl⟩ := trodVars_none hV
  obtain ⟨a0, rfl, rfl, rfl, w0⟩ := open_int Try.underlying3 (hval 0 3 v0 rfl rfl) h0
  obtain ⟨a1, rfl, rfl, rfl, w1⟩ := open_int Try.underlying3 (hval 1 3 v1 rfl rfl) h1
  clear hA0 hval0
  simp only [List.append_nil] at hW'
  refine (trovelaw5_HuffRoom.law a0 a1 W w0 w1).mono fun e W' h => ?_
  have bel : Below W.heap.size W W' := h.2.below (Nat.le_refl _) (by simp)
  obtain rfl := h.1
  exact ⟨_, rfl, _, _, _, [], _, [], hW', trodAll_mk1 (shut_bool Try.underlying4 _), (trodAll_cons_mk (shut_int Try.underlying3 w0) (trodAll_cons_mk (shut_int Try.underlying3 w1) trodAll_mk0)), rfl, bel.frame _, fun h => by cases h⟩

theorem k1 : Rows.huffRoomRow.wf (OpenSpec.ofChange Rows.huffRoomSpec) = true := by kernel_rfl
theorem k4 : Try.f21.params.all (Try.prog.readableRec ·) = true := by kernel_rfl
theorem k5 : namedTie Try.prog Rows.huffRoomRow.named Rows.huffRoomSpec.vars = true := by kernel_rfl
theorem k10 : (Rows.huffRoomRow.inPlace == Try.prog.inPlace 21) = true := by kernel_rfl
theorem k11 : (Rows.huffRoomRow.unfollowed == Try.prog.unfollowed 21) = true := by kernel_rfl
theorem k12 : (Rows.huffRoomRow.recurses == Try.prog.recurses 21) = true := by kernel_rfl
theorem k13 : (Rows.huffRoomRow.named == Try.prog.varsNamed 21) = true := by kernel_rfl
theorem k14 : (Rows.huffRoomRow.maps == (Try.f21.params.toList ++ Rows.huffRoomSpec.plain.varTypes Try.prog).any (Try.prog.mapsRec ·)) = true := by kernel_rfl
theorem k15 : (Rows.huffRoomRow.ifaces == (Try.f21.params.toList ++ Rows.huffRoomSpec.plain.varTypes Try.prog).any (Try.prog.ifacesRec ·)) = true := by kernel_rfl
theorem k16 : (Rows.huffRoomRow.mapsOut == Try.prog.mapsAmong Try.f21.resultTypes.toList) = true := by kernel_rfl
theorem k17 : (Rows.huffRoomRow.loops == (Try.f21.params.toList ++ Rows.huffRoomSpec.plain.varTypes Try.prog).any (Try.prog.loopsFrom ·)) = true := by kernel_rfl
theorem k18 : (Rows.huffRoomRow.wideKeys == (Try.f21.params.toList ++ Rows.huffRoomSpec.plain.varTypes Try.prog ++ Try.f21.resultTypes.toList).any (Try.prog.wideKeysFrom ·)) = true := by kernel_rfl
theorem k19 : Rows.huffRoomSpec.vars.all (Try.prog.varReadable ·) = true := by kernel_rfl
theorem k20 : Try.f21.resultTypes.all (fun t => Try.prog.readableRec t && decide (t < Try.prog.types.size)) = true := by kernel_rfl
theorem k21 : (Rows.huffRoomRow.ifacesOut == Try.f21.resultTypes.toList.any (Try.prog.ifacesRec ·)) = true := by kernel_rfl
theorem k22 : (Rows.huffRoomRow.loopsOut == Try.f21.resultTypes.toList.any (Try.prog.loopsFrom ·)) = true := by kernel_rfl
theorem k23 : (Rows.huffRoomRow.plainKeys == Try.prog.plainKeys) = true := by kernel_rfl
theorem k29 : (Rows.huffRoomRow.kinds == (if Rows.huffRoomRow.domain.isEmpty then [] else Try.f21.params.toList.map fun t => match Try.prog.underlying t with | some (.int k) => some k | _ => none)) = true := by kernel_rfl
theorem k31 : (Rows.huffRoomRow.veiled == (Try.f21.params.toList ++ Rows.huffRoomSpec.plain.varTypes Try.prog ++ Try.f21.resultTypes.toList).any (Try.prog.veiledRec ·)) = true := by kernel_rfl
theorem k32 : Rows.huffRoomRow.veiledFits Try.prog Try.f21.params.toList (Try.f21.params.toList ++ Rows.huffRoomSpec.plain.varTypes Try.prog ++ Try.f21.resultTypes.toList) = true := by kernel_rfl
set_option maxRecDepth 100000 in
theorem closed : joinedFacts Try.prog 21 Try.f21 Rows.huffRoomSpec Rows.huffRoomRow = true :=
  joined_of k1 f_laid f_maps k4 k5 (by kernel_rfl) f_stops (by kernel_rfl) f_knobs k10 k11 k12 k13 k14 k15 k16 k17 k18 k19 k20 k21 k22 k23 (by kernel_rfl) f_heard f_enter (by rw [f_lifts]; kernel_rfl) (by rw [f_make]; kernel_rfl) k29 (by kernel_rfl) k31 k32

theorem over : Rows.huffRoomRow.holds Try.pinned (OpenSpec.ofChange Rows.huffRoomSpec) :=
  OpenClaim.holds_of_wide 21 Try.f21 rfl rfl rfl rfl rfl rfl rfl ⟨rfl, rfl, rfl, rfl, rfl⟩ rfl rfl rfl rfl rfl (by kernel_rfl) Try.func21 closed
    (of_decide_eq_true (by kernel_rfl)) (by unfold Func.isWrapper; first | (rw [if_pos (by decide +kernel)]; kernel_rfl) | (rw [if_neg (by decide +kernel)]; exact ⟨rfl, rfl⟩))
    (fun os started H enc _ => lifted os started H enc)

theorem proved : Rows.HuffRoomSaid := over
end Go.Proofs.Ytkajimndclhgaaa.huffRoom
