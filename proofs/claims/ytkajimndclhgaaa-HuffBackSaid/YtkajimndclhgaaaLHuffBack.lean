/- Symbols written by a code are read again, those without bits cannot be written, and what they cost is how many bits they are; for at most 400 lengths and 300 symbols (more are let through). -/
import Derived.Test.YtkajimndclhgaaaRows
import Derived.WalkKit
import Derived.ProofKit
import Derived.OpenShut
import Derived.ShutString
import Derived.ChangeOld
import Derived.Below
import Derived.Test.YtkajimndclhgaaaHuffF
import Derived.Test.YtkajimndclhgaaaOpn
import Derived.Test.YtkajimndclhgaaaFit
namespace Go.Proofs.Ytkajimndclhgaaa.huffBack
open Go.ChangeShapes Go.WideShapes Go.ChangeAt Go.RowKit
set_option linter.unusedVariables false

set_option maxRecDepth 100000 in
theorem lifted (os : Os) (started : os.Started) (H : Type) (enc : TypeId × Value → H) :
    ReturnsInHanded {} Try.checked os 24 .any (Rows.huffBackSpec.pre6 enc Try.prog Try.f24 Rows.huffBackRow.domain false) (Rows.huffBackSpec.post enc Try.prog Try.f24 false true false false) := by
  refine returnsInHanded_of_change (C := Try.checked) f_own started (by kernel_rfl) Try.func24
    (ChangeSpec.witness6 (enc := enc) (C := Try.checked) false ⟨#[], #[.slice none 0 0, .slice none 0 0], []⟩ 8 (by kernel_rfl) (by kernel_rfl) (by kernel_rfl) (by kernel_rfl)) ?_
  intro W base args ds gs before hval0 hW hcnd _
  have hval : ∀ (j : Nat) t v, Try.f24.params[j]? = some t → args[j]? = some v → Value.okWide Try.prog W .any base t v := hval0
  have hW' := hW
  obtain ⟨p, q, hA0, hV, rfl, hfz, hnd⟩ := hW
  have hA : DataW.TrodAll enc Try.prog W 0 (fun _ => true) true Try.f24.params.toList args.toList ds p := hA0
  rw [Try.params24] at hA hval
  obtain ⟨v0, vs0, d0, ds0, p0, q0, hargs, rfl, rfl, h0, r0⟩ := trodAll_cons hA
  obtain ⟨v1, vs1, d1, ds1, p1, q1, rfl, rfl, rfl, h1, r1⟩ := trodAll_cons r0
  obtain ⟨rfl, rfl, rfl⟩ := trodAll_nil r1
  obtain rfl : args = #[v0, v1] := by cases args; simp_all
  obtain ⟨rfl, rfl⟩ := trodVars_none hV
  obtain ⟨a0, len0, cap0, rfl⟩ := okWide_slice Try.underlying44 (hval 0 44 v0 rfl rfl)
  have k0 := h0
  have lt0 : ∀ x ∈ p0, x.block < W.heap.size := by obtain ⟨m, hm⟩ := k0; exact DataW.trod_lt m _ _ _ hm
  obtain ⟨x0, y0, z0, u0, c0⟩ : ∃ xs : List Int, Rd W 1 ⟨a0, len0, cap0⟩ (xs.map (Value.int .i64)) ∧ (∀ n ∈ xs, (Lit.int .i64 n).wf = true) ∧ xs.length = len0 ∧ len0 ≤ cap0 := by
    obtain ⟨fuel, hf⟩ := h0
    exact open_row (s := ⟨a0, len0, cap0⟩) Try.underlying44 Try.underlying3 (by kernel_rfl) hf
  obtain ⟨a1, len1, cap1, rfl⟩ := okWide_slice Try.underlying44 (hval 1 44 v1 rfl rfl)
  have k1 := h1
  have lt1 : ∀ x ∈ p1, x.block < W.heap.size := by obtain ⟨m, hm⟩ := k1; exact DataW.trod_lt m _ _ _ hm
  obtain ⟨x1, y1, z1, u1, c1⟩ : ∃ xs : List Int, Rd W 1 ⟨a1, len1, cap1⟩ (xs.map (Value.int .i64)) ∧ (∀ n ∈ xs, (Lit.int .i64 n).wf = true) ∧ xs.length = len1 ∧ len1 ≤ cap1 := by
    obtain ⟨fuel, hf⟩ := h1
    exact open_row (s := ⟨a1, len1, cap1⟩) Try.underlying44 Try.underlying3 (by kernel_rfl) hf
  clear hA0 hval0
  simp only [List.append_nil] at hW'
  refine (trovelaw5_HuffBack.law ⟨a0, len0, cap0⟩ ⟨a1, len1, cap1⟩ x0 x1 W y0 y1 z0 z1).mono fun e W' h => ?_
  have bel : Below W.heap.size W W' := h.2.below (Nat.le_refl _) (by simp)
  obtain rfl := h.1
  exact ⟨_, rfl, _, _, _, [], _, [], hW', trodAll_mk1 (shut_bool Try.underlying4 _), (trodAll_cons_mk (Below.trod f_laid (by kernel_rfl) (of_decide_eq_true (by kernel_rfl)) k0 bel lt0) (trodAll_cons_mk (Below.trod f_laid (by kernel_rfl) (of_decide_eq_true (by kernel_rfl)) k1 bel lt1) trodAll_mk0)), rfl, bel.frame _, fun h => by cases h⟩

theorem k1 : Rows.huffBackRow.wf (OpenSpec.ofChange Rows.huffBackSpec) = true := by kernel_rfl
theorem k4 : Try.f24.params.all (Try.prog.readableRec ·) = true := by kernel_rfl
theorem k5 : namedTie Try.prog Rows.huffBackRow.named Rows.huffBackSpec.vars = true := by kernel_rfl
theorem k10 : (Rows.huffBackRow.inPlace == Try.prog.inPlace 24) = true := by kernel_rfl
theorem k11 : (Rows.huffBackRow.unfollowed == Try.prog.unfollowed 24) = true := by kernel_rfl
theorem k12 : (Rows.huffBackRow.recurses == Try.prog.recurses 24) = true := by kernel_rfl
theorem k13 : (Rows.huffBackRow.named == Try.prog.varsNamed 24) = true := by kernel_rfl
theorem k14 : (Rows.huffBackRow.maps == (Try.f24.params.toList ++ Rows.huffBackSpec.plain.varTypes Try.prog).any (Try.prog.mapsRec ·)) = true := by kernel_rfl
theorem k15 : (Rows.huffBackRow.ifaces == (Try.f24.params.toList ++ Rows.huffBackSpec.plain.varTypes Try.prog).any (Try.prog.ifacesRec ·)) = true := by kernel_rfl
theorem k16 : (Rows.huffBackRow.mapsOut == Try.prog.mapsAmong Try.f24.resultTypes.toList) = true := by kernel_rfl
theorem k17 : (Rows.huffBackRow.loops == (Try.f24.params.toList ++ Rows.huffBackSpec.plain.varTypes Try.prog).any (Try.prog.loopsFrom ·)) = true := by kernel_rfl
theorem k18 : (Rows.huffBackRow.wideKeys == (Try.f24.params.toList ++ Rows.huffBackSpec.plain.varTypes Try.prog ++ Try.f24.resultTypes.toList).any (Try.prog.wideKeysFrom ·)) = true := by kernel_rfl
theorem k19 : Rows.huffBackSpec.vars.all (Try.prog.varReadable ·) = true := by kernel_rfl
theorem k20 : Try.f24.resultTypes.all (fun t => Try.prog.readableRec t && decide (t < Try.prog.types.size)) = true := by kernel_rfl
theorem k21 : (Rows.huffBackRow.ifacesOut == Try.f24.resultTypes.toList.any (Try.prog.ifacesRec ·)) = true := by kernel_rfl
theorem k22 : (Rows.huffBackRow.loopsOut == Try.f24.resultTypes.toList.any (Try.prog.loopsFrom ·)) = true := by kernel_rfl
theorem k23 : (Rows.huffBackRow.plainKeys == Try.prog.plainKeys) = true := by kernel_rfl
theorem k29 : (Rows.huffBackRow.kinds == (if Rows.huffBackRow.domain.isEmpty then [] else Try.f24.params.toList.map fun t => match Try.prog.underlying t with | some (.int k) => some k | _ => none)) = true := by kernel_rfl
theorem k31 : (Rows.huffBackRow.veiled == (Try.f24.params.toList ++ Rows.huffBackSpec.plain.varTypes Try.prog ++ Try.f24.resultTypes.toList).any (Try.prog.veiledRec ·)) = true := by kernel_rfl
theorem k32 : Rows.huffBackRow.veiledFits Try.prog Try.f24.params.toList (Try.f24.params.toList ++ Rows.huffBackSpec.plain.varTypes Try.prog ++ Try.f24.resultTypes.toList) = true := by kernel_rfl
set_option maxRecDepth 100000 in
theorem closed : joinedFacts Try.prog 24 Try.f24 Rows.huffBackSpec Rows.huffBackRow = true :=
  joined_of k1 f_laid f_maps k4 k5 (by kernel_rfl) f_stops (by kernel_rfl) f_knobs k10 k11 k12 k13 k14 k15 k16 k17 k18 k19 k20 k21 k22 k23 (by kernel_rfl) f_heard f_enter (by rw [f_lifts]; kernel_rfl) (by rw [f_make]; kernel_rfl) k29 (by kernel_rfl) k31 k32

theorem over : Rows.huffBackRow.holds Try.pinned (OpenSpec.ofChange Rows.huffBackSpec) :=
  OpenClaim.holds_of_wide 24 Try.f24 rfl rfl rfl rfl rfl rfl rfl ⟨rfl, rfl, rfl, rfl, rfl⟩ rfl rfl rfl rfl rfl (by kernel_rfl) Try.func24 closed
    (of_decide_eq_true (by kernel_rfl)) (by unfold Func.isWrapper; first | (rw [if_pos (by decide +kernel)]; kernel_rfl) | (rw [if_neg (by decide +kernel)]; exact ⟨rfl, rfl⟩))
    (fun os started H enc _ => lifted os started H enc)

theorem proved : Rows.HuffBackSaid := over
end Go.Proofs.Ytkajimndclhgaaa.huffBack
