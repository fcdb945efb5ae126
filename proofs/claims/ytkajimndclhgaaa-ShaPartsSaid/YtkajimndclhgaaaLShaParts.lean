/- The SHA-1 of bytes written in any parts is the document's sum of all together, at each step, and a twin goes on by itself; for at most 30 parts of at most 200 bytes, and at most 3000 bytes more (others are let through). -/
import Derived.Test.YtkajimndclhgaaaRows
import Derived.WalkKit
import Derived.ProofKit
import Derived.OpenShut
import Derived.ShutString
import Derived.ChangeOld
import Derived.Below
import Derived.Test.YtkajimndclhgaaaShaR
import Derived.Test.YtkajimndclhgaaaOpn
import Derived.Test.YtkajimndclhgaaaFit
namespace Go.Proofs.Ytkajimndclhgaaa.shaParts
open Go.ChangeShapes Go.WideShapes Go.ChangeAt Go.RowKit
set_option linter.unusedVariables false

set_option maxRecDepth 100000 in
theorem lifted (os : Os) (started : os.Started) (H : Type) (enc : TypeId × Value → H) :
    ReturnsInHanded {} Try.checked os 8 .any (Rows.shaPartsSpec.pre6 enc Try.prog Try.f8 Rows.shaPartsRow.domain false) (Rows.shaPartsSpec.post enc Try.prog Try.f8 false true false false) := by
  refine returnsInHanded_of_change (C := Try.checked) f_own started (by kernel_rfl) Try.func8
    (ChangeSpec.witness6 (enc := enc) (C := Try.checked) false ⟨#[], #[.slice none 0 0, .slice none 0 0], []⟩ 8 (by kernel_rfl) (by kernel_rfl) (by kernel_rfl) (by kernel_rfl)) ?_
  intro W base args ds gs before hval0 hW hcnd _
  have hval : ∀ (j : Nat) t v, Try.f8.params[j]? = some t → args[j]? = some v → Value.okWide Try.prog W .any base t v := hval0
  have hW' := hW
  obtain ⟨p, q, hA0, hV, rfl, hfz, hnd⟩ := hW
  have hA : DataW.TrodAll enc Try.prog W 0 (fun _ => true) true Try.f8.params.toList args.toList ds p := hA0
  rw [Try.params8] at hA hval
  obtain ⟨v0, vs0, d0, ds0, p0, q0, hargs, rfl, rfl, h0, r0⟩ := trodAll_cons hA
  obtain ⟨v1, vs1, d1, ds1, p1, q1, rfl, rfl, rfl, h1, r1⟩ := trodAll_cons r0
  obtain ⟨rfl, rfl, rfl⟩ := trodAll_nil r1
  obtain rfl : args = #[v0, v1] := by cases args; simp_all
  obtain ⟨rfl, rfl⟩ := trodVars_none hV
  obtain ⟨a0, len0, cap0, rfl⟩ := okWide_slice Try.underlying55 (hval 0 55 v0 rfl rfl)
  have k0 := h0
  have lt0 : ∀ x ∈ p0, x.block < W.heap.size := by obtain ⟨m, hm⟩ := k0; exact DataW.trod_lt m _ _ _ hm
  obtain ⟨x0, y0, z0, u0, c0⟩ : ∃ L : List (Sl × List Int), Rd W 1 ⟨a0, len0, cap0⟩ (sls L) ∧ (∀ y ∈ L, Rd W 1 y.1 (y.2.map (Value.int .u8)) ∧ (∀ n ∈ y.2, (Lit.int .u8 n).wf = true) ∧ y.1.len ≤ y.1.cap) ∧ L.length = len0 ∧ len0 ≤ cap0 := by
    obtain ⟨fuel, hf⟩ := h0
    exact open_rows (s := ⟨a0, len0, cap0⟩) Try.underlying55 Try.underlying31 Try.underlying5 (by kernel_rfl) (by kernel_rfl) hf
  obtain ⟨a1, len1, cap1, rfl⟩ := okWide_slice Try.underlying31 (hval 1 31 v1 rfl rfl)
  have k1 := h1
  have lt1 : ∀ x ∈ p1, x.block < W.heap.size := by obtain ⟨m, hm⟩ := k1; exact DataW.trod_lt m _ _ _ hm
  obtain ⟨x1, y1, z1, u1, c1⟩ : ∃ xs : List Int, Rd W 1 ⟨a1, len1, cap1⟩ (xs.map (Value.int .u8)) ∧ (∀ n ∈ xs, (Lit.int .u8 n).wf = true) ∧ xs.length = len1 ∧ len1 ≤ cap1 := by
    obtain ⟨fuel, hf⟩ := h1
    exact open_row (s := ⟨a1, len1, cap1⟩) Try.underlying31 Try.underlying5 (by kernel_rfl) hf
  clear hA0 hval0
  simp only [List.append_nil] at hW'
  refine (trovelaw3_ShaParts.law ⟨a0, len0, cap0⟩ ⟨a1, len1, cap1⟩ x0 x1 W y0 y1 z0 z1).mono fun e W' h => ?_
  have bel : Below W.heap.size W W' := h.2.below (Nat.le_refl _) (by simp)
  obtain rfl := h.1
  exact ⟨_, rfl, _, _, _, [], _, [], hW', trodAll_mk1 (shut_bool Try.underlying4 _), (trodAll_cons_mk (Below.trod f_laid (by kernel_rfl) (of_decide_eq_true (by kernel_rfl)) k0 bel lt0) (trodAll_cons_mk (Below.trod f_laid (by kernel_rfl) (of_decide_eq_true (by kernel_rfl)) k1 bel lt1) trodAll_mk0)), rfl, bel.frame _, fun h => by cases h⟩

theorem k1 : Rows.shaPartsRow.wf (OpenSpec.ofChange Rows.shaPartsSpec) = true := by kernel_rfl
theorem k4 : Try.f8.params.all (Try.prog.readableRec ·) = true := by kernel_rfl
theorem k5 : namedTie Try.prog Rows.shaPartsRow.named Rows.shaPartsSpec.vars = true := by kernel_rfl
theorem k10 : (Rows.shaPartsRow.inPlace == Try.prog.inPlace 8) = true := by kernel_rfl
theorem k11 : (Rows.shaPartsRow.unfollowed == Try.prog.unfollowed 8) = true := by kernel_rfl
theorem k12 : (Rows.shaPartsRow.recurses == Try.prog.recurses 8) = true := by kernel_rfl
theorem k13 : (Rows.shaPartsRow.named == Try.prog.varsNamed 8) = true := by kernel_rfl
theorem k14 : (Rows.shaPartsRow.maps == (Try.f8.params.toList ++ Rows.shaPartsSpec.plain.varTypes Try.prog).any (Try.prog.mapsRec ·)) = true := by kernel_rfl
theorem k15 : (Rows.shaPartsRow.ifaces == (Try.f8.params.toList ++ Rows.shaPartsSpec.plain.varTypes Try.prog).any (Try.prog.ifacesRec ·)) = true := by kernel_rfl
theorem k16 : (Rows.shaPartsRow.mapsOut == Try.prog.mapsAmong Try.f8.resultTypes.toList) = true := by kernel_rfl
theorem k17 : (Rows.shaPartsRow.loops == (Try.f8.params.toList ++ Rows.shaPartsSpec.plain.varTypes Try.prog).any (Try.prog.loopsFrom ·)) = true := by kernel_rfl
theorem k18 : (Rows.shaPartsRow.wideKeys == (Try.f8.params.toList ++ Rows.shaPartsSpec.plain.varTypes Try.prog ++ Try.f8.resultTypes.toList).any (Try.prog.wideKeysFrom ·)) = true := by kernel_rfl
theorem k19 : Rows.shaPartsSpec.vars.all (Try.prog.varReadable ·) = true := by kernel_rfl
theorem k20 : Try.f8.resultTypes.all (fun t => Try.prog.readableRec t && decide (t < Try.prog.types.size)) = true := by kernel_rfl
theorem k21 : (Rows.shaPartsRow.ifacesOut == Try.f8.resultTypes.toList.any (Try.prog.ifacesRec ·)) = true := by kernel_rfl
theorem k22 : (Rows.shaPartsRow.loopsOut == Try.f8.resultTypes.toList.any (Try.prog.loopsFrom ·)) = true := by kernel_rfl
theorem k23 : (Rows.shaPartsRow.plainKeys == Try.prog.plainKeys) = true := by kernel_rfl
theorem k29 : (Rows.shaPartsRow.kinds == (if Rows.shaPartsRow.domain.isEmpty then [] else Try.f8.params.toList.map fun t => match Try.prog.underlying t with | some (.int k) => some k | _ => none)) = true := by kernel_rfl
theorem k31 : (Rows.shaPartsRow.veiled == (Try.f8.params.toList ++ Rows.shaPartsSpec.plain.varTypes Try.prog ++ Try.f8.resultTypes.toList).any (Try.prog.veiledRec ·)) = true := by kernel_rfl
theorem k32 : Rows.shaPartsRow.veiledFits Try.prog Try.f8.params.toList (Try.f8.params.toList ++ Rows.shaPartsSpec.plain.varTypes Try.prog ++ Try.f8.resultTypes.toList) = true := by kernel_rfl
set_option maxRecDepth 100000 in
theorem closed : joinedFacts Try.prog 8 Try.f8 Rows.shaPartsSpec Rows.shaPartsRow = true :=
  joined_of k1 f_laid f_maps k4 k5 (by kernel_rfl) f_stops (by kernel_rfl) f_knobs k10 k11 k12 k13 k14 k15 k16 k17 k18 k19 k20 k21 k22 k23 (by kernel_rfl) f_heard f_enter (by rw [f_lifts]; kernel_rfl) (by rw [f_make]; kernel_rfl) k29 (by kernel_rfl) k31 k32

theorem over : Rows.shaPartsRow.holds Try.pinned (OpenSpec.ofChange Rows.shaPartsSpec) :=
  OpenClaim.holds_of_wide 8 Try.f8 rfl rfl rfl rfl rfl rfl rfl ⟨rfl, rfl, rfl, rfl, rfl⟩ rfl rfl rfl rfl rfl (by kernel_rfl) Try.func8 closed
    (of_decide_eq_true (by kernel_rfl)) (by unfold Func.isWrapper; first | (rw [if_pos (by decide +kernel)]; kernel_rfl) | (rw [if_neg (by decide +kernel)]; exact ⟨rfl, rfl⟩))
    (fun os started H enc _ => lifted os started H enc)

theorem proved : Rows.ShaPartsSaid := over
end Go.Proofs.Ytkajimndclhgaaa.shaParts
