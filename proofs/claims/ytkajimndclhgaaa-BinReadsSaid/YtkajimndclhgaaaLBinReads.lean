/- Any bytes, taken as numbers and as rows of bytes: the program's reader tells what the document's tells; for at most 2000 bytes and 200 acts (more are let through). -/
import Derived.Test.YtkajimndclhgaaaRows
import Derived.WalkKit
import Derived.ProofKit
import Derived.OpenShut
import Derived.ShutString
import Derived.ChangeOld
import Derived.Below
import Derived.Test.YtkajimndclhgaaaBinE
import Derived.Test.YtkajimndclhgaaaOpn
import Derived.Test.YtkajimndclhgaaaFit
namespace Go.Proofs.Ytkajimndclhgaaa.binReads
open Go.ChangeShapes Go.WideShapes Go.ChangeAt Go.RowKit
set_option linter.unusedVariables false

set_option maxRecDepth 100000 in
theorem lifted (os : Os) (started : os.Started) (H : Type) (enc : TypeId × Value → H) :
    ReturnsInHanded {} Try.checked os 16 .any (Rows.binReadsSpec.pre6 enc Try.prog Try.f16 Rows.binReadsRow.domain false) (Rows.binReadsSpec.post enc Try.prog Try.f16 false true false false) := by
  refine returnsInHanded_of_change (C := Try.checked) f_own started (by kernel_rfl) Try.func16
    (ChangeSpec.witness6 (enc := enc) (C := Try.checked) false ⟨#[], #[.slice none 0 0, .slice none 0 0], []⟩ 8 (by kernel_rfl) (by kernel_rfl) (by kernel_rfl) (by kernel_rfl)) ?_
  intro W base args ds gs before hval0 hW hcnd _
  have hval : ∀ (j : Nat) t v, Try.f16.params[j]? = some t → args[j]? = some v → Value.okWide Try.prog W .any base t v := hval0
  have hW' := hW
  obtain ⟨p, q, hA0, hV, rfl, hfz, hnd⟩ := hW
  have hA : DataW.TrodAll enc Try.prog W 0 (fun _ => true) true Try.f16.params.toList args.toList ds p := hA0
  rw [Try.params16] at hA hval
  obtain ⟨v0, vs0, d0, ds0, p0, q0, hargs, rfl, rfl, h0, r0⟩ := trodAll_cons hA
  obtain ⟨v1, vs1, d1, ds1, p1, q1, rfl, rfl, rfl, h1, r1⟩ := trodAll_cons r0
  obtain ⟨rfl, rfl, rfl⟩ := trodAll_nil r1
  obtain rfl : args = #[v0, v1] := by cases args; simp_all
  obtain ⟨rfl, rfl⟩ := trodVars_none hV
  obtain ⟨a0, len0, cap0, rfl⟩ := okWide_slice Try.underlying31 (hval 0 31 v0 rfl rfl)
  have k0 := h0
  have lt0 : ∀ x ∈ p0, x.block < W.heap.size := by obtain ⟨m, hm⟩ := k0; exact DataW.trod_lt m _ _ _ hm
  obtain ⟨x0, y0, z0, u0, c0⟩ : ∃ xs : List Int, Rd W 1 ⟨a0, len0, cap0⟩ (xs.map (Value.int .u8)) ∧ (∀ n ∈ xs, (Lit.int .u8 n).wf = true) ∧ xs.length = len0 ∧ len0 ≤ cap0 := by
    obtain ⟨fuel, hf⟩ := h0
    exact open_row (s := ⟨a0, len0, cap0⟩) Try.underlying31 Try.underlying5 (by kernel_rfl) hf
  obtain ⟨a1, len1, cap1, rfl⟩ := okWide_slice Try.underlying84 (hval 1 84 v1 rfl rfl)
  have k1 := h1
  have lt1 : ∀ x ∈ p1, x.block < W.heap.size := by obtain ⟨m, hm⟩ := k1; exact DataW.trod_lt m _ _ _ hm
  obtain ⟨x1, y1, z1, _⟩ : ∃ xs : List (Int × Int), Rd W 2 ⟨a1, len1, cap1⟩ (duo .i64 .i64 xs) ∧ (∀ y ∈ xs, (Lit.int .i64 y.1).wf = true ∧ (Lit.int .i64 y.2).wf = true) ∧ xs.length = len1 := by
    obtain ⟨fuel, hf⟩ := h1
    exact open_duo (s := ⟨a1, len1, cap1⟩) Try.underlying84 Try.underlying89 (by kernel_rfl) ⟨rfl, rfl⟩ ⟨by kernel_rfl, by kernel_rfl⟩ Try.underlying3 Try.underlying3 hf
  clear hA0 hval0
  simp only [List.append_nil] at hW'
  refine (trovelaw1_BinReads.law ⟨a0, len0, cap0⟩ ⟨a1, len1, cap1⟩ x0 x1 W y0 y1 z0 c0 z1).mono fun e W' h => ?_
  have bel : Below W.heap.size W W' := h.2.below (Nat.le_refl _) (by simp)
  obtain rfl := h.1
  exact ⟨_, rfl, _, _, _, [], _, [], hW', trodAll_mk1 (shut_bool Try.underlying4 _), (trodAll_cons_mk (Below.trod f_laid (by kernel_rfl) (of_decide_eq_true (by kernel_rfl)) k0 bel lt0) (trodAll_cons_mk (Below.trod f_laid (by kernel_rfl) (of_decide_eq_true (by kernel_rfl)) k1 bel lt1) trodAll_mk0)), rfl, bel.frame _, fun h => by cases h⟩

theorem k1 : Rows.binReadsRow.wf (OpenSpec.ofChange Rows.binReadsSpec) = true := by kernel_rfl
theorem k4 : Try.f16.params.all (Try.prog.readableRec ·) = true := by kernel_rfl
theorem k5 : namedTie Try.prog Rows.binReadsRow.named Rows.binReadsSpec.vars = true := by kernel_rfl
theorem k10 : (Rows.binReadsRow.inPlace == Try.prog.inPlace 16) = true := by kernel_rfl
theorem k11 : (Rows.binReadsRow.unfollowed == Try.prog.unfollowed 16) = true := by kernel_rfl
theorem k12 : (Rows.binReadsRow.recurses == Try.prog.recurses 16) = true := by kernel_rfl
theorem k13 : (Rows.binReadsRow.named == Try.prog.varsNamed 16) = true := by kernel_rfl
theorem k14 : (Rows.binReadsRow.maps == (Try.f16.params.toList ++ Rows.binReadsSpec.plain.varTypes Try.prog).any (Try.prog.mapsRec ·)) = true := by kernel_rfl
theorem k15 : (Rows.binReadsRow.ifaces == (Try.f16.params.toList ++ Rows.binReadsSpec.plain.varTypes Try.prog).any (Try.prog.ifacesRec ·)) = true := by kernel_rfl
theorem k16 : (Rows.binReadsRow.mapsOut == Try.prog.mapsAmong Try.f16.resultTypes.toList) = true := by kernel_rfl
theorem k17 : (Rows.binReadsRow.loops == (Try.f16.params.toList ++ Rows.binReadsSpec.plain.varTypes Try.prog).any (Try.prog.loopsFrom ·)) = true := by kernel_rfl
theorem k18 : (Rows.binReadsRow.wideKeys == (Try.f16.params.toList ++ Rows.binReadsSpec.plain.varTypes Try.prog ++ Try.f16.resultTypes.toList).any (Try.prog.wideKeysFrom ·)) = true := by kernel_rfl
theorem k19 : Rows.binReadsSpec.vars.all (Try.prog.varReadable ·) = true := by kernel_rfl
theorem k20 : Try.f16.resultTypes.all (fun t => Try.prog.readableRec t && decide (t < Try.prog.types.size)) = true := by kernel_rfl
theorem k21 : (Rows.binReadsRow.ifacesOut == Try.f16.resultTypes.toList.any (Try.prog.ifacesRec ·)) = true := by kernel_rfl
theorem k22 : (Rows.binReadsRow.loopsOut == Try.f16.resultTypes.toList.any (Try.prog.loopsFrom ·)) = true := by kernel_rfl
theorem k23 : (Rows.binReadsRow.plainKeys == Try.prog.plainKeys) = true := by kernel_rfl
theorem k29 : (Rows.binReadsRow.kinds == (if Rows.binReadsRow.domain.isEmpty then [] else Try.f16.params.toList.map fun t => match Try.prog.underlying t with | some (.int k) => some k | _ => none)) = true := by kernel_rfl
theorem k31 : (Rows.binReadsRow.veiled == (Try.f16.params.toList ++ Rows.binReadsSpec.plain.varTypes Try.prog ++ Try.f16.resultTypes.toList).any (Try.prog.veiledRec ·)) = true := by kernel_rfl
theorem k32 : Rows.binReadsRow.veiledFits Try.prog Try.f16.params.toList (Try.f16.params.toList ++ Rows.binReadsSpec.plain.varTypes Try.prog ++ Try.f16.resultTypes.toList) = true := by kernel_rfl
set_option maxRecDepth 100000 in
theorem closed : joinedFacts Try.prog 16 Try.f16 Rows.binReadsSpec Rows.binReadsRow = true :=
  joined_of k1 f_laid f_maps k4 k5 (by kernel_rfl) f_stops (by kernel_rfl) f_knobs k10 k11 k12 k13 k14 k15 k16 k17 k18 k19 k20 k21 k22 k23 (by kernel_rfl) f_heard f_enter (by rw [f_lifts]; kernel_rfl) (by rw [f_make]; kernel_rfl) k29 (by kernel_rfl) k31 k32

theorem over : Rows.binReadsRow.holds Try.pinned (OpenSpec.ofChange Rows.binReadsSpec) :=
  OpenClaim.holds_of_wide 16 Try.f16 rfl rfl rfl rfl rfl rfl rfl ⟨rfl, rfl, rfl, rfl, rfl⟩ rfl rfl rfl rfl rfl (by kernel_rfl) Try.func16 closed
    (of_decide_eq_true (by kernel_rfl)) (by unfold Func.isWrapper; first | (rw [if_pos (by decide +kernel)]; kernel_rfl) | (rw [if_neg (by decide +kernel)]; exact ⟨rfl, rfl⟩))
    (fun os started H enc _ => lifted os started H enc)

theorem proved : Rows.BinReadsSaid := over
end Go.Proofs.Ytkajimndclhgaaa.binReads
