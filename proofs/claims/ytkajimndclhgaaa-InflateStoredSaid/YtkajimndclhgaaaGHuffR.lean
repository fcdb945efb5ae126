/- PRINTED BY gen.py (own work): what calls come to, and the proofs of it. -/
import Derived.Test.YtkajimndclhgaaaVcJ
import Derived.Test.YtkajimndclhgaaaProg
namespace Go.Proofs.Ytkajimndclhgaaa
open Go Go.Proofs
set_option linter.unusedVariables false
set_option maxRecDepth 100000

/-! trove/troveref5.Check -/
def troveref5_Check.j3 (sum_4 : Int) (Q : Value → World → Prop) (w : World) : Prop :=
  br (decide ((sum_4 : Int) > 32768)) (
  Q (.tuple ⟨[.bool false, .int .i64 2]⟩) w) (
  Q (.tuple ⟨[.bool ((sum_4 : Int) == 32768), .int .i64 0]⟩) w)

def troveref5_Check.b1 (lens_0 : Sl) (sum_4 : Int) (i_5 : Int) (Q : Value → World → Prop) (nx1 : Sl → Int → Int → World → Prop) (w : World) : Prop :=
  br (decide ((i_5 : Int) < ((lens_0.len : Nat) : Int))) (
  ixS lens_0.a lens_0.len i_5 1 fun a1 =>
  ldI .i64 w a1 fun x2 =>
  br (decide ((x2 : Int) < 0)) (
  Q (.tuple ⟨[.bool false, .int .i64 1]⟩) w) (
  ixS lens_0.a lens_0.len i_5 1 fun a3 =>
  ldI .i64 w a3 fun x4 =>
  br (decide ((x4 : Int) > 15)) (
  Q (.tuple ⟨[.bool false, .int .i64 1]⟩) w) (
  ixS lens_0.a lens_0.len i_5 1 fun a5 =>
  ldI .i64 w a5 fun x6 =>
  br (decide ((x6 : Int) > 0)) (
  ixS lens_0.a lens_0.len i_5 1 fun a7 =>
  ldI .i64 w a7 fun x8 =>
  lt (IntKind.i64.wrap (15 - x8)) fun x9 =>
  lt (IntKind.u64.wrap x9) fun x10 =>
  (0 : Int) ≤ x10 ∧
  lt (shlV .i64 1 x10) fun x11 =>
  lt (IntKind.i64.wrap (sum_4 + x11)) fun x12 =>
  lt (IntKind.i64.wrap (i_5 + 1)) fun x13 =>
  nx1 lens_0 x12 x13 w) (
  lt (IntKind.i64.wrap (i_5 + 1)) fun x14 =>
  nx1 lens_0 sum_4 x14 w)))) (
  troveref5_Check.j3 sum_4 Q w)

def troveref5_Check.l1 (lens_0 : Sl) (sum_4 : Int) (i_5 : Int) (Q : Value → World → Prop) (w : World) : Prop :=
  ∃ (I : Int → Int → World → Prop) (μ : Int → Int → World → Nat), I sum_4 i_5 w ∧ ∀ sum_4 : Int, ∀ i_5 : Int, ∀ w : World, I sum_4 i_5 w → troveref5_Check.b1 lens_0 sum_4 i_5 Q (fun lens_0' sum_4' i_5' w' => (lens_0' = lens_0) ∧ I sum_4' i_5' w' ∧ μ sum_4' i_5' w' < μ sum_4 i_5 w) w

def troveref5_Check.j4 (lens_0 : Sl) (sum_4 : Int) (i_5 : Int) (Q : Value → World → Prop) (w : World) : Prop :=
  troveref5_Check.l1 lens_0 sum_4 i_5 Q w

def troveref5_Check.j2 (lens_0 : Sl) (sum_4 : Int) (Q : Value → World → Prop) (w : World) : Prop :=
  troveref5_Check.j4 lens_0 sum_4 0 Q w

def troveref5_Check.j1 (lens_0 : Sl) (Q : Value → World → Prop) (w : World) : Prop :=
  br (decide ((((lens_0.len : Nat) : Int) : Int) > 288)) (
  Q (.tuple ⟨[.bool false, .int .i64 1]⟩) w) (
  troveref5_Check.j2 lens_0 0 Q w)

def troveref5_Check (lens_0 : Sl) (Q : Value → World → Prop) (w : World) : Prop :=
  troveref5_Check.j1 lens_0 Q w

theorem troveref5_Check.ok (lens_0 : Sl) (Q : Value → World → Prop) (w : World) (h : troveref5_Check lens_0 Q w) : Calls Try.prog 96 ⟨[.slice lens_0.a lens_0.len lens_0.cap]⟩ w (Ret Q) := by
  refine calls_of_wpc [.tmp 2, .tmp 3] Try.func96 rfl rfl rfl rfl ?_
  refine wpc_seq (fun ρ w => asL (ρ 0) fun lens_0 => troveref5_Check.j1 lens_0 Q w) ?_ ?_
  · skip
    exact pt_sound hmix _ (Eq.mp (by kernel_rfl) h)
  · intro ρ w h
    obtain ⟨lens_0, e0, h⟩ := asL_el h
    refine reroot e0 ?_
    refine wpc_pre2 hmix (fun ρ w => asL (ρ 0) fun lens_0 => asI .i64 (ρ 4) fun sum_4 => troveref5_Check.j2 lens_0 sum_4 Q w) (Eq.mp (by kernel_rfl) h) ?_
    intro ρ w h
    obtain ⟨lens_0, e0, h⟩ := asL_el h
    obtain ⟨sum_4, e4, h⟩ := asI_el h
    refine reroot e0 (reroot (upd_other e4 rfl) ?_)
    refine wpc_seq (fun ρ w => asI .i64 (ρ 4) fun sum_4 => troveref5_Check.j3 sum_4 Q w) ?_ ?_
    · skip
      refine wpc_seq (fun ρ w => asL (ρ 0) fun lens_0 => asI .i64 (ρ 4) fun sum_4 => asI .i64 (ρ 5) fun i_5 => troveref5_Check.j4 lens_0 sum_4 i_5 Q w) ?_ ?_
      · skip
        exact pt_sound hmix _ (Eq.mp (by kernel_rfl) h)
      · intro ρ w h
        obtain ⟨lens_0, e0, h⟩ := asL_el h
        obtain ⟨sum_4, e4, h⟩ := asI_el h
        obtain ⟨i_5, e5, h⟩ := asI_el h
        refine reroot e0 (reroot (upd_other e4 rfl) (reroot (upd_other (upd_other e5 rfl) rfl) ?_))
        refine wpc_block ?_
        obtain ⟨I, μ, hI, hr⟩ := h
        refine wpc_loopS (α := Int × Int) (fun s ρ => ρ 4 = .int .i64 s.1 ∧ ρ 5 = .int .i64 s.2 ∧ ρ 0 = .slice lens_0.a lens_0.len lens_0.cap) (fun s w => I s.1 s.2 w) (fun s w => μ s.1 s.2 w) (sum_4, i_5) ⟨rfl, rfl, rfl⟩ hI ?_
        rintro ⟨sum_4, i_5⟩ ρ w ⟨e4, e5, e0⟩ hI
        have h := hr sum_4 i_5 w hI
        clear hr
        obtain ⟨nx1, hnx⟩ : ∃ nx : Sl → Int → Int → World → Prop, nx = (fun lens_0' sum_4' i_5' w' => (lens_0' = lens_0) ∧ I sum_4' i_5' w' ∧ μ sum_4' i_5' w' < μ sum_4 i_5 w) := ⟨_, rfl⟩
        rw [← hnx] at h
        refine wpc_norm (M := fun ρ w => asL (ρ 0) fun lens_0 => asI .i64 (ρ 4) fun sum_4 => asI .i64 (ρ 5) fun i_5 => nx1 lens_0 sum_4 i_5 w) ?_ (fun ρ w h => ?_)
        · skip
          refine reroot e0 (reroot (upd_other e4 rfl) (reroot (upd_other (upd_other e5 rfl) rfl) ?_))
          exact pt_sound hmix _ (Eq.mp (by kernel_rfl) h)
        · skip
          obtain ⟨lens_0', e0', h⟩ := asL_el h
          obtain ⟨sum_4', e4', h⟩ := asI_el h
          obtain ⟨i_5', e5', h⟩ := asI_el h
          rw [hnx] at h
          obtain ⟨hu, hI2, hμ⟩ := h
          obtain rfl := hu
          exact ⟨(sum_4', i_5'), ⟨e4', e5', e0'⟩, hI2, hμ⟩
    · intro ρ w h
      obtain ⟨sum_4, e4, h⟩ := asI_el h
      refine reroot e4 ?_
      exact pt_sound hmix _ (Eq.mp (by kernel_rfl) h)

/-! trove/troveref5.Codes -/
def troveref5_Codes.j4 (out_6 : Sl) (Q : Value → World → Prop) (w : World) : Prop :=
  Q (.tuple ⟨[.slice out_6.a out_6.len out_6.cap, .int .i64 0]⟩) w

def troveref5_Codes.j7 (lens_0 : Sl) (out_6 : Sl) (code_7 : Int) (n_8 : Int) (Q : Value → World → Prop) (nx1 : Sl → Sl → Int → Int → World → Prop) (w : World) : Prop :=
  lt (IntKind.i64.wrap (n_8 + 1)) fun x1 =>
  nx1 lens_0 out_6 code_7 x1 w

def troveref5_Codes.j8 (lens_0 : Sl) (out_6 : Sl) (code_7 : Int) (n_8 : Int) (Q : Value → World → Prop) (nx1 : Sl → Sl → Int → Int → World → Prop) (w : World) : Prop :=
  (0 : Int) ≤ 1 ∧
  lt (shlV .i64 code_7 1) fun x2 =>
  troveref5_Codes.j7 lens_0 out_6 x2 n_8 Q nx1 w

def troveref5_Codes.b2 (lens_0 : Sl) (out_6 : Sl) (n_8 : Int) (code_7 : Int) (i_9 : Int) (Q : Value → World → Prop) (nx1 : Sl → Sl → Int → Int → World → Prop) (nx2 : Sl → Sl → Int → Int → Int → World → Prop) (w : World) : Prop :=
  br (decide ((i_9 : Int) < ((lens_0.len : Nat) : Int))) (
  ixS lens_0.a lens_0.len i_9 1 fun a3 =>
  ldI .i64 w a3 fun x4 =>
  br ((x4 : Int) == n_8) (
  ixS out_6.a out_6.len i_9 1 fun a5 =>
  st w a5 (.int .i64 code_7) fun w6 =>
  lt (IntKind.i64.wrap (code_7 + 1)) fun x7 =>
  lt (IntKind.i64.wrap (i_9 + 1)) fun x8 =>
  nx2 lens_0 out_6 n_8 x7 x8 w6) (
  lt (IntKind.i64.wrap (i_9 + 1)) fun x9 =>
  nx2 lens_0 out_6 n_8 code_7 x9 w)) (
  troveref5_Codes.j8 lens_0 out_6 code_7 n_8 Q nx1 w)

def troveref5_Codes.l2 (lens_0 : Sl) (out_6 : Sl) (n_8 : Int) (code_7 : Int) (i_9 : Int) (Q : Value → World → Prop) (nx1 : Sl → Sl → Int → Int → World → Prop) (w : World) : Prop :=
  ∃ (I : Int → Int → World → Prop) (μ : Int → Int → World → Nat), I code_7 i_9 w ∧ ∀ code_7 : Int, ∀ i_9 : Int, ∀ w : World, I code_7 i_9 w → troveref5_Codes.b2 lens_0 out_6 n_8 code_7 i_9 Q nx1 (fun lens_0' out_6' n_8' code_7' i_9' w' => (lens_0' = lens_0 ∧ out_6' = out_6 ∧ n_8' = n_8) ∧ I code_7' i_9' w' ∧ μ code_7' i_9' w' < μ code_7 i_9 w) w

def troveref5_Codes.j9 (lens_0 : Sl) (out_6 : Sl) (code_7 : Int) (n_8 : Int) (i_9 : Int) (Q : Value → World → Prop) (nx1 : Sl → Sl → Int → Int → World → Prop) (w : World) : Prop :=
  troveref5_Codes.l2 lens_0 out_6 n_8 code_7 i_9 Q nx1 w

def troveref5_Codes.j6 (lens_0 : Sl) (out_6 : Sl) (code_7 : Int) (n_8 : Int) (Q : Value → World → Prop) (nx1 : Sl → Sl → Int → Int → World → Prop) (w : World) : Prop :=
  troveref5_Codes.j9 lens_0 out_6 code_7 n_8 0 Q nx1 w

def troveref5_Codes.b1 (lens_0 : Sl) (out_6 : Sl) (code_7 : Int) (n_8 : Int) (Q : Value → World → Prop) (nx1 : Sl → Sl → Int → Int → World → Prop) (w : World) : Prop :=
  br (decide ((n_8 : Int) ≤ 15)) (
  troveref5_Codes.j6 lens_0 out_6 code_7 n_8 Q nx1 w) (
  troveref5_Codes.j4 out_6 Q w)

def troveref5_Codes.l1 (lens_0 : Sl) (out_6 : Sl) (code_7 : Int) (n_8 : Int) (Q : Value → World → Prop) (w : World) : Prop :=
  ∃ (I : Int → Int → World → Prop) (μ : Int → Int → World → Nat), I code_7 n_8 w ∧ ∀ code_7 : Int, ∀ n_8 : Int, ∀ w : World, I code_7 n_8 w → troveref5_Codes.b1 lens_0 out_6 code_7 n_8 Q (fun lens_0' out_6' code_7' n_8' w' => (lens_0' = lens_0 ∧ out_6' = out_6) ∧ I code_7' n_8' w' ∧ μ code_7' n_8' w' < μ code_7 n_8 w) w

def troveref5_Codes.j5 (lens_0 : Sl) (out_6 : Sl) (code_7 : Int) (n_8 : Int) (Q : Value → World → Prop) (w : World) : Prop :=
  troveref5_Codes.l1 lens_0 out_6 code_7 n_8 Q w

def troveref5_Codes.j3 (lens_0 : Sl) (out_6 : Sl) (code_7 : Int) (Q : Value → World → Prop) (w : World) : Prop :=
  troveref5_Codes.j5 lens_0 out_6 code_7 1 Q w

def troveref5_Codes.j2 (lens_0 : Sl) (Q : Value → World → Prop) (w : World) : Prop :=
  mkK Try.prog 3 w ((lens_0.len : Nat) : Int) ((lens_0.len : Nat) : Int) fun s10 w11 =>
  troveref5_Codes.j3 lens_0 s10 0 Q w11

def troveref5_Codes.j1 (lens_0 : Sl) (Q : Value → World → Prop) (w : World) : Prop :=
  Calls Try.prog 96 ⟨[.slice lens_0.a lens_0.len lens_0.cap]⟩ w fun e12 w13 =>
  ∃ r14 : Bool, ∃ r15 : Int, e12 = .returned (.tuple ⟨[.bool r14, .int .i64 r15]⟩) ∧
  br ((r15 : Int) != 0) (
  Q (.tuple ⟨[.slice none 0 0, .int .i64 r15]⟩) w13) (
  troveref5_Codes.j2 lens_0 Q w13)

def troveref5_Codes (lens_0 : Sl) (Q : Value → World → Prop) (w : World) : Prop :=
  troveref5_Codes.j1 lens_0 Q w

theorem troveref5_Codes.ok (lens_0 : Sl) (Q : Value → World → Prop) (w : World) (h : troveref5_Codes lens_0 Q w) : Calls Try.prog 98 ⟨[.slice lens_0.a lens_0.len lens_0.cap]⟩ w (Ret Q) := by
  refine calls_of_wpc [.tmp 2, .tmp 3] Try.func98 rfl rfl rfl rfl ?_
  refine wpc_seq (fun ρ w => asL (ρ 0) fun lens_0 => troveref5_Codes.j1 lens_0 Q w) ?_ ?_
  · skip
    exact pt_sound hmix _ (Eq.mp (by kernel_rfl) h)
  · intro ρ w h
    obtain ⟨lens_0, e0, h⟩ := asL_el h
    refine reroot e0 ?_
    refine wpc_pre2 hmix (fun ρ w => asL (ρ 0) fun lens_0 => troveref5_Codes.j2 lens_0 Q w) (Eq.mp (by kernel_rfl) h) ?_
    intro ρ w h
    obtain ⟨lens_0, e0, h⟩ := asL_el h
    refine reroot e0 ?_
    refine wpc_pre2 hmix (fun ρ w => asL (ρ 0) fun lens_0 => asL (ρ 6) fun out_6 => asI .i64 (ρ 7) fun code_7 => troveref5_Codes.j3 lens_0 out_6 code_7 Q w) (Eq.mp (by kernel_rfl) h) ?_
    intro ρ w h
    obtain ⟨lens_0, e0, h⟩ := asL_el h
    obtain ⟨out_6, e6, h⟩ := asL_el h
    obtain ⟨code_7, e7, h⟩ := asI_el h
    refine reroot e0 (reroot (upd_other e6 rfl) (reroot (upd_other (upd_other e7 rfl) rfl) ?_))
    refine wpc_seq (fun ρ w => asL (ρ 6) fun out_6 => troveref5_Codes.j4 out_6 Q w) ?_ ?_
    · skip
      refine wpc_seq (fun ρ w => asL (ρ 0) fun lens_0 => asL (ρ 6) fun out_6 => asI .i64 (ρ 7) fun code_7 => asI .i64 (ρ 8) fun n_8 => troveref5_Codes.j5 lens_0 out_6 code_7 n_8 Q w) ?_ ?_
      · skip
        exact pt_sound hmix _ (Eq.mp (by kernel_rfl) h)
      · intro ρ w h
        obtain ⟨lens_0, e0, h⟩ := asL_el h
        obtain ⟨out_6, e6, h⟩ := asL_el h
        obtain ⟨code_7, e7, h⟩ := asI_el h
        obtain ⟨n_8, e8, h⟩ := asI_el h
        refine reroot e0 (reroot (upd_other e6 rfl) (reroot (upd_other (upd_other e7 rfl) rfl) (reroot (upd_other (upd_other (upd_other e8 rfl) rfl) rfl) ?_)))
        refine wpc_block ?_
        obtain ⟨I, μ, hI, hr⟩ := h
        refine wpc_loopS (α := Int × Int) (fun s ρ => ρ 7 = .int .i64 s.1 ∧ ρ 8 = .int .i64 s.2 ∧ ρ 0 = .slice lens_0.a lens_0.len lens_0.cap ∧ ρ 6 = .slice out_6.a out_6.len out_6.cap) (fun s w => I s.1 s.2 w) (fun s w => μ s.1 s.2 w) (code_7, n_8) ⟨rfl, rfl, rfl, rfl⟩ hI ?_
        rintro ⟨code_7, n_8⟩ ρ w ⟨e7, e8, e0, e6⟩ hI
        have h := hr code_7 n_8 w hI
        clear hr
        obtain ⟨nx1, hnx⟩ : ∃ nx : Sl → Sl → Int → Int → World → Prop, nx = (fun lens_0' out_6' code_7' n_8' w' => (lens_0' = lens_0 ∧ out_6' = out_6) ∧ I code_7' n_8' w' ∧ μ code_7' n_8' w' < μ code_7 n_8 w) := ⟨_, rfl⟩
        rw [← hnx] at h
        refine wpc_norm (M := fun ρ w => asL (ρ 0) fun lens_0 => asL (ρ 6) fun out_6 => asI .i64 (ρ 7) fun code_7 => asI .i64 (ρ 8) fun n_8 => nx1 lens_0 out_6 code_7 n_8 w) ?_ (fun ρ w h => ?_)
        · skip
          refine reroot e0 (reroot (upd_other e6 rfl) (reroot (upd_other (upd_other e7 rfl) rfl) (reroot (upd_other (upd_other (upd_other e8 rfl) rfl) rfl) ?_)))
          refine wpc_seq (fun ρ w => asL (ρ 0) fun lens_0 => asL (ρ 6) fun out_6 => asI .i64 (ρ 7) fun code_7 => asI .i64 (ρ 8) fun n_8 => troveref5_Codes.j6 lens_0 out_6 code_7 n_8 Q nx1 w) ?_ ?_
          · skip
            exact pt_sound hmix _ (Eq.mp (by kernel_rfl) h)
          · intro ρ w h
            obtain ⟨lens_0, e0, h⟩ := asL_el h
            obtain ⟨out_6, e6, h⟩ := asL_el h
            obtain ⟨code_7, e7, h⟩ := asI_el h
            obtain ⟨n_8, e8, h⟩ := asI_el h
            refine reroot e0 (reroot (upd_other e6 rfl) (reroot (upd_other (upd_other e7 rfl) rfl) (reroot (upd_other (upd_other (upd_other e8 rfl) rfl) rfl) ?_)))
            refine wpc_seq (fun ρ w => asL (ρ 0) fun lens_0 => asL (ρ 6) fun out_6 => asI .i64 (ρ 7) fun code_7 => asI .i64 (ρ 8) fun n_8 => troveref5_Codes.j7 lens_0 out_6 code_7 n_8 Q nx1 w) ?_ ?_
            · skip
              refine wpc_block ?_
              refine wpc_seq (fun ρ w => asL (ρ 0) fun lens_0 => asL (ρ 6) fun out_6 => asI .i64 (ρ 7) fun code_7 => asI .i64 (ρ 8) fun n_8 => troveref5_Codes.j8 lens_0 out_6 code_7 n_8 Q nx1 w) ?_ ?_
              · skip
                refine wpc_seq (fun ρ w => asL (ρ 0) fun lens_0 => asL (ρ 6) fun out_6 => asI .i64 (ρ 7) fun code_7 => asI .i64 (ρ 8) fun n_8 => asI .i64 (ρ 9) fun i_9 => troveref5_Codes.j9 lens_0 out_6 code_7 n_8 i_9 Q nx1 w) ?_ ?_
                · skip
                  exact pt_sound hmix _ (Eq.mp (by kernel_rfl) h)
                · intro ρ w h
                  obtain ⟨lens_0, e0, h⟩ := asL_el h
                  obtain ⟨out_6, e6, h⟩ := asL_el h
                  obtain ⟨code_7, e7, h⟩ := asI_el h
                  obtain ⟨n_8, e8, h⟩ := asI_el h
                  obtain ⟨i_9, e9, h⟩ := asI_el h
                  refine reroot e0 (reroot (upd_other e6 rfl) (reroot (upd_other (upd_other e7 rfl) rfl) (reroot (upd_other (upd_other (upd_other e8 rfl) rfl) rfl) (reroot (upd_other (upd_other (upd_other (upd_other e9 rfl) rfl) rfl) rfl) ?_))))
                  refine wpc_block ?_
                  obtain ⟨I, μ, hI, hr⟩ := h
                  refine wpc_loopS (α := Int × Int) (fun s ρ => ρ 7 = .int .i64 s.1 ∧ ρ 9 = .int .i64 s.2 ∧ ρ 0 = .slice lens_0.a lens_0.len lens_0.cap ∧ ρ 6 = .slice out_6.a out_6.len out_6.cap ∧ ρ 8 = .int .i64 n_8) (fun s w => I s.1 s.2 w) (fun s w => μ s.1 s.2 w) (code_7, i_9) ⟨rfl, rfl, rfl, rfl, rfl⟩ hI ?_
                  rintro ⟨code_7, i_9⟩ ρ w ⟨e7, e9, e0, e6, e8⟩ hI
                  have h := hr code_7 i_9 w hI
                  clear hr
                  obtain ⟨nx2, hnx⟩ : ∃ nx : Sl → Sl → Int → Int → Int → World → Prop, nx = (fun lens_0' out_6' n_8' code_7' i_9' w' => (lens_0' = lens_0 ∧ out_6' = out_6 ∧ n_8' = n_8) ∧ I code_7' i_9' w' ∧ μ code_7' i_9' w' < μ code_7 i_9 w) := ⟨_, rfl⟩
                  rw [← hnx] at h
                  refine wpc_norm (M := fun ρ w => asL (ρ 0) fun lens_0 => asL (ρ 6) fun out_6 => asI .i64 (ρ 8) fun n_8 => asI .i64 (ρ 7) fun code_7 => asI .i64 (ρ 9) fun i_9 => nx2 lens_0 out_6 n_8 code_7 i_9 w) ?_ (fun ρ w h => ?_)
                  · skip
                    refine reroot e0 (reroot (upd_other e6 rfl) (reroot (upd_other (upd_other e7 rfl) rfl) (reroot (upd_other (upd_other (upd_other e8 rfl) rfl) rfl) (reroot (upd_other (upd_other (upd_other (upd_other e9 rfl) rfl) rfl) rfl) ?_))))
                    exact pt_sound hmix _ (Eq.mp (by kernel_rfl) h)
                  · skip
                    obtain ⟨lens_0', e0', h⟩ := asL_el h
                    obtain ⟨out_6', e6', h⟩ := asL_el h
                    obtain ⟨n_8', e8', h⟩ := asI_el h
                    obtain ⟨code_7', e7', h⟩ := asI_el h
                    obtain ⟨i_9', e9', h⟩ := asI_el h
                    rw [hnx] at h
                    obtain ⟨hu, hI2, hμ⟩ := h
                    obtain ⟨rfl, rfl, rfl⟩ := hu
                    exact ⟨(code_7', i_9'), ⟨e7', e9', e0', e6', e8'⟩, hI2, hμ⟩
              · intro ρ w h
                obtain ⟨lens_0, e0, h⟩ := asL_el h
                obtain ⟨out_6, e6, h⟩ := asL_el h
                obtain ⟨code_7, e7, h⟩ := asI_el h
                obtain ⟨n_8, e8, h⟩ := asI_el h
                refine reroot e0 (reroot (upd_other e6 rfl) (reroot (upd_other (upd_other e7 rfl) rfl) (reroot (upd_other (upd_other (upd_other e8 rfl) rfl) rfl) ?_)))
                exact pt_sound hmix _ (Eq.mp (by kernel_rfl) h)
            · intro ρ w h
              obtain ⟨lens_0, e0, h⟩ := asL_el h
              obtain ⟨out_6, e6, h⟩ := asL_el h
              obtain ⟨code_7, e7, h⟩ := asI_el h
              obtain ⟨n_8, e8, h⟩ := asI_el h
              refine reroot e0 (reroot (upd_other e6 rfl) (reroot (upd_other (upd_other e7 rfl) rfl) (reroot (upd_other (upd_other (upd_other e8 rfl) rfl) rfl) ?_)))
              exact pt_sound hmix _ (Eq.mp (by kernel_rfl) h)
        · skip
          obtain ⟨lens_0', e0', h⟩ := asL_el h
          obtain ⟨out_6', e6', h⟩ := asL_el h
          obtain ⟨code_7', e7', h⟩ := asI_el h
          obtain ⟨n_8', e8', h⟩ := asI_el h
          rw [hnx] at h
          obtain ⟨hu, hI2, hμ⟩ := h
          obtain ⟨rfl, rfl⟩ := hu
          exact ⟨(code_7', n_8'), ⟨e7', e8', e0', e6'⟩, hI2, hμ⟩
    · intro ρ w h
      obtain ⟨out_6, e6, h⟩ := asL_el h
      refine reroot e6 ?_
      exact pt_sound hmix _ (Eq.mp (by kernel_rfl) h)

/-! trove/troveref5.New -/
def troveref5_New.j3 (lens_0 : Sl) (Q : Value → World → Prop) (w : World) : Prop :=
  Calls Try.prog 98 ⟨[.slice lens_0.a lens_0.len lens_0.cap]⟩ w fun e1 w2 =>
  ∃ r3 : Sl, ∃ r4 : Int, e1 = .returned (.tuple ⟨[.slice r3.a r3.len r3.cap, .int .i64 r4]⟩) ∧
  lt (⟨World.heapSize w2, 0, none⟩ : Addr) fun a5 =>
  lt (World.alloc w2 (.cells ⟨[]⟩ 3)) fun w6 =>
  rdO w6 lens_0.a (lens_0.len * 1) fun c7 =>
  apK Try.prog 3 w6 (some a5) 0 0 lens_0.len c7 fun s8 w9 =>
  lt (⟨World.heapSize w9, 0, none⟩ : Addr) fun a10 =>
  lt (World.alloc w9 (.cells (⟨[.slice s8.a s8.len s8.cap, .slice r3.a r3.len r3.cap]⟩ : Array Value) 175)) fun w11 =>
  Q (.tuple ⟨[.pointer (some a10), .int .i64 0]⟩) w11

def troveref5_New.j6 (lens_0 : Sl) (half_1 : Bool) (n_8 : Int) (Q : Value → World → Prop) (w : World) : Prop :=
  br (!half_1) (
  Q (.tuple ⟨[.pointer none, .int .i64 2]⟩) w) (
  br (decide ((n_8 : Int) > 1)) (
  Q (.tuple ⟨[.pointer none, .int .i64 2]⟩) w) (
  troveref5_New.j3 lens_0 Q w))

def troveref5_New.b1 (lens_0 : Sl) (half_1 : Bool) (n_8 : Int) (i_9 : Int) (Q : Value → World → Prop) (nx1 : Sl → Bool → Int → Int → World → Prop) (w : World) : Prop :=
  br (decide ((i_9 : Int) < ((lens_0.len : Nat) : Int))) (
  ixS lens_0.a lens_0.len i_9 1 fun a12 =>
  ldI .i64 w a12 fun x13 =>
  br (decide ((x13 : Int) > 0)) (
  ixS lens_0.a lens_0.len i_9 1 fun a14 =>
  ldI .i64 w a14 fun x15 =>
  lt (IntKind.i64.wrap (n_8 + x15)) fun x16 =>
  lt (IntKind.i64.wrap (i_9 + 1)) fun x17 =>
  nx1 lens_0 half_1 x16 x17 w) (
  lt (IntKind.i64.wrap (i_9 + 1)) fun x18 =>
  nx1 lens_0 half_1 n_8 x18 w)) (
  troveref5_New.j6 lens_0 half_1 n_8 Q w)

def troveref5_New.l1 (lens_0 : Sl) (half_1 : Bool) (n_8 : Int) (i_9 : Int) (Q : Value → World → Prop) (w : World) : Prop :=
  ∃ (I : Int → Int → World → Prop) (μ : Int → Int → World → Nat), I n_8 i_9 w ∧ ∀ n_8 : Int, ∀ i_9 : Int, ∀ w : World, I n_8 i_9 w → troveref5_New.b1 lens_0 half_1 n_8 i_9 Q (fun lens_0' half_1' n_8' i_9' w' => (lens_0' = lens_0 ∧ half_1' = half_1) ∧ I n_8' i_9' w' ∧ μ n_8' i_9' w' < μ n_8 i_9 w) w

def troveref5_New.j7 (lens_0 : Sl) (half_1 : Bool) (n_8 : Int) (i_9 : Int) (Q : Value → World → Prop) (w : World) : Prop :=
  troveref5_New.l1 lens_0 half_1 n_8 i_9 Q w

def troveref5_New.j5 (lens_0 : Sl) (half_1 : Bool) (n_8 : Int) (Q : Value → World → Prop) (w : World) : Prop :=
  troveref5_New.j7 lens_0 half_1 n_8 0 Q w

def troveref5_New.j4 (lens_0 : Sl) (half_1 : Bool) (t21 : Bool) (Q : Value → World → Prop) (w : World) : Prop :=
  br t21 (
  troveref5_New.j5 lens_0 half_1 0 Q w) (
  troveref5_New.j3 lens_0 Q w)

def troveref5_New.j2 (lens_0 : Sl) (half_1 : Bool) (full_6 : Bool) (Q : Value → World → Prop) (w : World) : Prop :=
  troveref5_New.j4 lens_0 half_1 (!full_6) Q w

def troveref5_New.j1 (lens_0 : Sl) (half_1 : Bool) (Q : Value → World → Prop) (w : World) : Prop :=
  Calls Try.prog 96 ⟨[.slice lens_0.a lens_0.len lens_0.cap]⟩ w fun e19 w20 =>
  ∃ r21 : Bool, ∃ r22 : Int, e19 = .returned (.tuple ⟨[.bool r21, .int .i64 r22]⟩) ∧
  br ((r22 : Int) != 0) (
  Q (.tuple ⟨[.pointer none, .int .i64 r22]⟩) w20) (
  troveref5_New.j2 lens_0 half_1 r21 Q w20)

def troveref5_New (lens_0 : Sl) (half_1 : Bool) (Q : Value → World → Prop) (w : World) : Prop :=
  troveref5_New.j1 lens_0 half_1 Q w

theorem troveref5_New.ok (lens_0 : Sl) (half_1 : Bool) (Q : Value → World → Prop) (w : World) (h : troveref5_New lens_0 half_1 Q w) : Calls Try.prog 100 ⟨[.slice lens_0.a lens_0.len lens_0.cap, .bool half_1]⟩ w (Ret Q) := by
  refine calls_of_wpc [.tmp 4, .tmp 5] Try.func100 rfl rfl rfl rfl ?_
  refine wpc_seq (fun ρ w => asL (ρ 0) fun lens_0 => asB (ρ 1) fun half_1 => troveref5_New.j1 lens_0 half_1 Q w) ?_ ?_
  · skip
    exact pt_sound hmix _ (Eq.mp (by kernel_rfl) h)
  · intro ρ w h
    obtain ⟨lens_0, e0, h⟩ := asL_el h
    obtain ⟨half_1, e1, h⟩ := asB_el h
    refine reroot e0 (reroot (upd_other e1 rfl) ?_)
    refine wpc_pre2 hmix (fun ρ w => asL (ρ 0) fun lens_0 => asB (ρ 1) fun half_1 => asB (ρ 6) fun full_6 => troveref5_New.j2 lens_0 half_1 full_6 Q w) (Eq.mp (by kernel_rfl) h) ?_
    intro ρ w h
    obtain ⟨lens_0, e0, h⟩ := asL_el h
    obtain ⟨half_1, e1, h⟩ := asB_el h
    obtain ⟨full_6, e6, h⟩ := asB_el h
    refine reroot e0 (reroot (upd_other e1 rfl) (reroot (upd_other (upd_other e6 rfl) rfl) ?_))
    refine wpc_seq (fun ρ w => asL (ρ 0) fun lens_0 => troveref5_New.j3 lens_0 Q w) ?_ ?_
    · skip
      refine wpc_seq (fun ρ w => asL (ρ 0) fun lens_0 => asB (ρ 1) fun half_1 => asB (ρ 21) fun t21 => troveref5_New.j4 lens_0 half_1 t21 Q w) ?_ ?_
      · skip
        exact pt_sound hmix _ (Eq.mp (by kernel_rfl) h)
      · intro ρ w h
        obtain ⟨lens_0, e0, h⟩ := asL_el h
        obtain ⟨half_1, e1, h⟩ := asB_el h
        obtain ⟨t21, e21, h⟩ := asB_el h
        refine reroot e0 (reroot (upd_other e1 rfl) (reroot (upd_other (upd_other e21 rfl) rfl) ?_))
        refine wpc_cond (b := t21) rfl (fun hb => ?_) (fun hb => ?_)
        · have h := br_t h hb
          refine wpc_seq (fun ρ w => asL (ρ 0) fun lens_0 => asB (ρ 1) fun half_1 => asI .i64 (ρ 8) fun n_8 => troveref5_New.j5 lens_0 half_1 n_8 Q w) ?_ ?_
          · skip
            exact pt_sound hmix _ (Eq.mp (by kernel_rfl) h)
          · intro ρ w h
            obtain ⟨lens_0, e0, h⟩ := asL_el h
            obtain ⟨half_1, e1, h⟩ := asB_el h
            obtain ⟨n_8, e8, h⟩ := asI_el h
            refine reroot e0 (reroot (upd_other e1 rfl) (reroot (upd_other (upd_other e8 rfl) rfl) ?_))
            refine wpc_seq (fun ρ w => asL (ρ 0) fun lens_0 => asB (ρ 1) fun half_1 => asI .i64 (ρ 8) fun n_8 => troveref5_New.j6 lens_0 half_1 n_8 Q w) ?_ ?_
            · skip
              refine wpc_seq (fun ρ w => asL (ρ 0) fun lens_0 => asB (ρ 1) fun half_1 => asI .i64 (ρ 8) fun n_8 => asI .i64 (ρ 9) fun i_9 => troveref5_New.j7 lens_0 half_1 n_8 i_9 Q w) ?_ ?_
              · skip
                exact pt_sound hmix _ (Eq.mp (by kernel_rfl) h)
              · intro ρ w h
                obtain ⟨lens_0, e0, h⟩ := asL_el h
                obtain ⟨half_1, e1, h⟩ := asB_el h
                obtain ⟨n_8, e8, h⟩ := asI_el h
                obtain ⟨i_9, e9, h⟩ := asI_el h
                refine reroot e0 (reroot (upd_other e1 rfl) (reroot (upd_other (upd_other e8 rfl) rfl) (reroot (upd_other (upd_other (upd_other e9 rfl) rfl) rfl) ?_)))
                refine wpc_block ?_
                obtain ⟨I, μ, hI, hr⟩ := h
                refine wpc_loopS (α := Int × Int) (fun s ρ => ρ 8 = .int .i64 s.1 ∧ ρ 9 = .int .i64 s.2 ∧ ρ 0 = .slice lens_0.a lens_0.len lens_0.cap ∧ ρ 1 = .bool half_1) (fun s w => I s.1 s.2 w) (fun s w => μ s.1 s.2 w) (n_8, i_9) ⟨rfl, rfl, rfl, rfl⟩ hI ?_
                rintro ⟨n_8, i_9⟩ ρ w ⟨e8, e9, e0, e1⟩ hI
                have h := hr n_8 i_9 w hI
                clear hr
                obtain ⟨nx1, hnx⟩ : ∃ nx : Sl → Bool → Int → Int → World → Prop, nx = (fun lens_0' half_1' n_8' i_9' w' => (lens_0' = lens_0 ∧ half_1' = half_1) ∧ I n_8' i_9' w' ∧ μ n_8' i_9' w' < μ n_8 i_9 w) := ⟨_, rfl⟩
                rw [← hnx] at h
                refine wpc_norm (M := fun ρ w => asL (ρ 0) fun lens_0 => asB (ρ 1) fun half_1 => asI .i64 (ρ 8) fun n_8 => asI .i64 (ρ 9) fun i_9 => nx1 lens_0 half_1 n_8 i_9 w) ?_ (fun ρ w h => ?_)
                · skip
                  refine reroot e0 (reroot (upd_other e1 rfl) (reroot (upd_other (upd_other e8 rfl) rfl) (reroot (upd_other (upd_other (upd_other e9 rfl) rfl) rfl) ?_)))
                  exact pt_sound hmix _ (Eq.mp (by kernel_rfl) h)
                · skip
                  obtain ⟨lens_0', e0', h⟩ := asL_el h
                  obtain ⟨half_1', e1', h⟩ := asB_el h
                  obtain ⟨n_8', e8', h⟩ := asI_el h
                  obtain ⟨i_9', e9', h⟩ := asI_el h
                  rw [hnx] at h
                  obtain ⟨hu, hI2, hμ⟩ := h
                  obtain ⟨rfl, rfl⟩ := hu
                  exact ⟨(n_8', i_9'), ⟨e8', e9', e0', e1'⟩, hI2, hμ⟩
            · intro ρ w h
              obtain ⟨lens_0, e0, h⟩ := asL_el h
              obtain ⟨half_1, e1, h⟩ := asB_el h
              obtain ⟨n_8, e8, h⟩ := asI_el h
              refine reroot e0 (reroot (upd_other e1 rfl) (reroot (upd_other (upd_other e8 rfl) rfl) ?_))
              exact pt_sound hmix _ (Eq.mp (by kernel_rfl) h)
        · have h := br_f h hb
          exact pt_sound hmix _ (Eq.mp (by kernel_rfl) h)
    · intro ρ w h
      obtain ⟨lens_0, e0, h⟩ := asL_el h
      refine reroot e0 ?_
      exact pt_sound hmix _ (Eq.mp (by kernel_rfl) h)

/-! (*trove/troveref5.Code).Next -/
def troveref5_Code_Next.j2  (Q : Value → World → Prop) (w : World) : Prop :=
  Q (.tuple ⟨[.int .i64 0, .int .i64 2]⟩) w

def troveref5_Code_Next.j5 (d_0 : (Option Addr)) (i_1 : (Option Addr)) (t6 : Int) (t7 : Int) (Q : Value → World → Prop) (nx1 : (Option Addr) → (Option Addr) → Int → Int → World → Prop) (w : World) : Prop :=
  lt (IntKind.i64.wrap (t7 + 1)) fun x1 =>
  nx1 d_0 i_1 t6 x1 w

def troveref5_Code_Next.j8 (d_0 : (Option Addr)) (i_1 : (Option Addr)) (t6 : Int) (t7 : Int) (t10 : Bool) (Q : Value → World → Prop) (nx1 : (Option Addr) → (Option Addr) → Int → Int → World → Prop) (w : World) : Prop :=
  br (!t10) (
  Q (.tuple ⟨[.int .i64 0, .int .i64 2]⟩) w) (
  troveref5_Code_Next.j5 d_0 i_1 t6 t7 Q nx1 w)

def troveref5_Code_Next.j11 (d_0 : (Option Addr)) (i_1 : (Option Addr)) (t6 : Int) (t7 : Int) (t10 : Bool) (t11 : Int) (Q : Value → World → Prop) (nx1 : (Option Addr) → (Option Addr) → Int → Int → World → Prop) (nx2 : (Option Addr) → (Option Addr) → Int → Int → Bool → Int → World → Prop) (w : World) : Prop :=
  lt (IntKind.i64.wrap (t11 + 1)) fun x2 =>
  nx2 d_0 i_1 t6 t7 t10 x2 w

def troveref5_Code_Next.j12 (d_0 : (Option Addr)) (i_1 : (Option Addr)) (t6 : Int) (t7 : Int) (t10 : Bool) (t11 : Int) (Q : Value → World → Prop) (nx1 : (Option Addr) → (Option Addr) → Int → Int → World → Prop) (nx2 : (Option Addr) → (Option Addr) → Int → Int → Bool → Int → World → Prop) (w : World) : Prop :=
  br t10 (
  troveref5_Code_Next.j11 d_0 i_1 t6 t7 true t11 Q nx1 nx2 w) (
  nz d_0 fun a3 =>
  ldL w (Addr.add a3 0) fun x4 =>
  ixS x4.a x4.len t11 1 fun a5 =>
  ldI .i64 w a5 fun x6 =>
  troveref5_Code_Next.j11 d_0 i_1 t6 t7 (decide ((x6 : Int) > t7)) t11 Q nx1 nx2 w)

def troveref5_Code_Next.j10 (d_0 : (Option Addr)) (i_1 : (Option Addr)) (t6 : Int) (t7 : Int) (t10 : Bool) (t11 : Int) (Q : Value → World → Prop) (nx1 : (Option Addr) → (Option Addr) → Int → Int → World → Prop) (nx2 : (Option Addr) → (Option Addr) → Int → Int → Bool → Int → World → Prop) (w : World) : Prop :=
  nz d_0 fun a7 =>
  ldL w (Addr.add a7 0) fun x8 =>
  ixS x8.a x8.len t11 1 fun a9 =>
  ldI .i64 w a9 fun x10 =>
  br ((x10 : Int) == t7) (
  nz d_0 fun a11 =>
  ldL w (Addr.add a11 1) fun x12 =>
  ixS x12.a x12.len t11 1 fun a13 =>
  ldI .i64 w a13 fun x14 =>
  br ((x14 : Int) == t6) (
  Q (.tuple ⟨[.int .i64 t11, .int .i64 0]⟩) w) (
  troveref5_Code_Next.j12 d_0 i_1 t6 t7 t10 t11 Q nx1 nx2 w)) (
  troveref5_Code_Next.j12 d_0 i_1 t6 t7 t10 t11 Q nx1 nx2 w)

def troveref5_Code_Next.b2 (d_0 : (Option Addr)) (i_1 : (Option Addr)) (t6 : Int) (t7 : Int) (t10 : Bool) (t11 : Int) (Q : Value → World → Prop) (nx1 : (Option Addr) → (Option Addr) → Int → Int → World → Prop) (nx2 : (Option Addr) → (Option Addr) → Int → Int → Bool → Int → World → Prop) (w : World) : Prop :=
  nz d_0 fun a15 =>
  ldL w (Addr.add a15 0) fun x16 =>
  br (decide ((t11 : Int) < ((x16.len : Nat) : Int))) (
  troveref5_Code_Next.j10 d_0 i_1 t6 t7 t10 t11 Q nx1 nx2 w) (
  troveref5_Code_Next.j8 d_0 i_1 t6 t7 t10 Q nx1 w)

def troveref5_Code_Next.l2 (d_0 : (Option Addr)) (i_1 : (Option Addr)) (t6 : Int) (t7 : Int) (t10 : Bool) (t11 : Int) (Q : Value → World → Prop) (nx1 : (Option Addr) → (Option Addr) → Int → Int → World → Prop) (w : World) : Prop :=
  ∃ (I : Bool → Int → World → Prop) (μ : Bool → Int → World → Nat), I t10 t11 w ∧ ∀ t10 : Bool, ∀ t11 : Int, ∀ w : World, I t10 t11 w → troveref5_Code_Next.b2 d_0 i_1 t6 t7 t10 t11 Q nx1 (fun d_0' i_1' t6' t7' t10' t11' w' => (d_0' = d_0 ∧ i_1' = i_1 ∧ t6' = t6 ∧ t7' = t7) ∧ I t10' t11' w' ∧ μ t10' t11' w' < μ t10 t11 w) w

def troveref5_Code_Next.j9 (d_0 : (Option Addr)) (i_1 : (Option Addr)) (t6 : Int) (t7 : Int) (t10 : Bool) (t11 : Int) (Q : Value → World → Prop) (nx1 : (Option Addr) → (Option Addr) → Int → Int → World → Prop) (w : World) : Prop :=
  troveref5_Code_Next.l2 d_0 i_1 t6 t7 t10 t11 Q nx1 w

def troveref5_Code_Next.j7 (d_0 : (Option Addr)) (i_1 : (Option Addr)) (t6 : Int) (t7 : Int) (t10 : Bool) (Q : Value → World → Prop) (nx1 : (Option Addr) → (Option Addr) → Int → Int → World → Prop) (w : World) : Prop :=
  troveref5_Code_Next.j9 d_0 i_1 t6 t7 t10 0 Q nx1 w

def troveref5_Code_Next.j6 (d_0 : (Option Addr)) (i_1 : (Option Addr)) (t6 : Int) (t7 : Int) (t8 : Int) (Q : Value → World → Prop) (nx1 : (Option Addr) → (Option Addr) → Int → Int → World → Prop) (w : World) : Prop :=
  (0 : Int) ≤ 1 ∧
  lt (shlV .i64 t6 1) fun x17 =>
  lt (orV .i64 x17 t8) fun x18 =>
  troveref5_Code_Next.j7 d_0 i_1 x18 t7 false Q nx1 w

def troveref5_Code_Next.j4 (d_0 : (Option Addr)) (i_1 : (Option Addr)) (t6 : Int) (t7 : Int) (Q : Value → World → Prop) (nx1 : (Option Addr) → (Option Addr) → Int → Int → World → Prop) (w : World) : Prop :=
  Calls Try.prog 52 ⟨[.pointer i_1, .int .i64 1]⟩ w fun e19 w20 =>
  ∃ r21 : Int, ∃ r22 : Bool, e19 = .returned (.tuple ⟨[.int .i64 r21, .bool r22]⟩) ∧
  br (!r22) (
  Q (.tuple ⟨[.int .i64 0, .int .i64 3]⟩) w20) (
  troveref5_Code_Next.j6 d_0 i_1 t6 t7 r21 Q nx1 w20)

def troveref5_Code_Next.b1 (d_0 : (Option Addr)) (i_1 : (Option Addr)) (t6 : Int) (t7 : Int) (Q : Value → World → Prop) (nx1 : (Option Addr) → (Option Addr) → Int → Int → World → Prop) (w : World) : Prop :=
  br (decide ((t7 : Int) ≤ 15)) (
  troveref5_Code_Next.j4 d_0 i_1 t6 t7 Q nx1 w) (
  troveref5_Code_Next.j2 Q w)

def troveref5_Code_Next.l1 (d_0 : (Option Addr)) (i_1 : (Option Addr)) (t6 : Int) (t7 : Int) (Q : Value → World → Prop) (w : World) : Prop :=
  ∃ (I : Int → Int → World → Prop) (μ : Int → Int → World → Nat), I t6 t7 w ∧ ∀ t6 : Int, ∀ t7 : Int, ∀ w : World, I t6 t7 w → troveref5_Code_Next.b1 d_0 i_1 t6 t7 Q (fun d_0' i_1' t6' t7' w' => (d_0' = d_0 ∧ i_1' = i_1) ∧ I t6' t7' w' ∧ μ t6' t7' w' < μ t6 t7 w) w

def troveref5_Code_Next.j3 (d_0 : (Option Addr)) (i_1 : (Option Addr)) (t6 : Int) (t7 : Int) (Q : Value → World → Prop) (w : World) : Prop :=
  troveref5_Code_Next.l1 d_0 i_1 t6 t7 Q w

def troveref5_Code_Next.j1 (d_0 : (Option Addr)) (i_1 : (Option Addr)) (t6 : Int) (Q : Value → World → Prop) (w : World) : Prop :=
  troveref5_Code_Next.j3 d_0 i_1 t6 1 Q w

def troveref5_Code_Next (d_0 : (Option Addr)) (i_1 : (Option Addr)) (Q : Value → World → Prop) (w : World) : Prop :=
  troveref5_Code_Next.j1 d_0 i_1 0 Q w

theorem troveref5_Code_Next.ok (d_0 : (Option Addr)) (i_1 : (Option Addr)) (Q : Value → World → Prop) (w : World) (h : troveref5_Code_Next d_0 i_1 Q w) : Calls Try.prog 103 ⟨[.pointer d_0, .pointer i_1]⟩ w (Ret Q) := by
  refine calls_of_wpc [.tmp 4, .tmp 5] Try.func103 rfl rfl rfl rfl ?_
  refine wpc_pre2 hmix (fun ρ w => asP (ρ 0) fun d_0 => asP (ρ 1) fun i_1 => asI .i64 (ρ 6) fun t6 => troveref5_Code_Next.j1 d_0 i_1 t6 Q w) (Eq.mp (by kernel_rfl) h) ?_
  intro ρ w h
  obtain ⟨d_0, e0, h⟩ := asP_el h
  obtain ⟨i_1, e1, h⟩ := asP_el h
  obtain ⟨t6, e6, h⟩ := asI_el h
  refine reroot e0 (reroot (upd_other e1 rfl) (reroot (upd_other (upd_other e6 rfl) rfl) ?_))
  refine wpc_seq (fun ρ w =>  troveref5_Code_Next.j2  Q w) ?_ ?_
  · skip
    refine wpc_seq (fun ρ w => asP (ρ 0) fun d_0 => asP (ρ 1) fun i_1 => asI .i64 (ρ 6) fun t6 => asI .i64 (ρ 7) fun t7 => troveref5_Code_Next.j3 d_0 i_1 t6 t7 Q w) ?_ ?_
    · skip
      exact pt_sound hmix _ (Eq.mp (by kernel_rfl) h)
    · intro ρ w h
      obtain ⟨d_0, e0, h⟩ := asP_el h
      obtain ⟨i_1, e1, h⟩ := asP_el h
      obtain ⟨t6, e6, h⟩ := asI_el h
      obtain ⟨t7, e7, h⟩ := asI_el h
      refine reroot e0 (reroot (upd_other e1 rfl) (reroot (upd_other (upd_other e6 rfl) rfl) (reroot (upd_other (upd_other (upd_other e7 rfl) rfl) rfl) ?_)))
      refine wpc_block ?_
      obtain ⟨I, μ, hI, hr⟩ := h
      refine wpc_loopS (α := Int × Int) (fun s ρ => ρ 6 = .int .i64 s.1 ∧ ρ 7 = .int .i64 s.2 ∧ ρ 0 = .pointer d_0 ∧ ρ 1 = .pointer i_1) (fun s w => I s.1 s.2 w) (fun s w => μ s.1 s.2 w) (t6, t7) ⟨rfl, rfl, rfl, rfl⟩ hI ?_
      rintro ⟨t6, t7⟩ ρ w ⟨e6, e7, e0, e1⟩ hI
      have h := hr t6 t7 w hI
      clear hr
      obtain ⟨nx1, hnx⟩ : ∃ nx : (Option Addr) → (Option Addr) → Int → Int → World → Prop, nx = (fun d_0' i_1' t6' t7' w' => (d_0' = d_0 ∧ i_1' = i_1) ∧ I t6' t7' w' ∧ μ t6' t7' w' < μ t6 t7 w) := ⟨_, rfl⟩
      rw [← hnx] at h
      refine wpc_norm (M := fun ρ w => asP (ρ 0) fun d_0 => asP (ρ 1) fun i_1 => asI .i64 (ρ 6) fun t6 => asI .i64 (ρ 7) fun t7 => nx1 d_0 i_1 t6 t7 w) ?_ (fun ρ w h => ?_)
      · skip
        refine reroot e0 (reroot (upd_other e1 rfl) (reroot (upd_other (upd_other e6 rfl) rfl) (reroot (upd_other (upd_other (upd_other e7 rfl) rfl) rfl) ?_)))
        refine wpc_seq (fun ρ w => asP (ρ 0) fun d_0 => asP (ρ 1) fun i_1 => asI .i64 (ρ 6) fun t6 => asI .i64 (ρ 7) fun t7 => troveref5_Code_Next.j4 d_0 i_1 t6 t7 Q nx1 w) ?_ ?_
        · skip
          exact pt_sound hmix _ (Eq.mp (by kernel_rfl) h)
        · intro ρ w h
          obtain ⟨d_0, e0, h⟩ := asP_el h
          obtain ⟨i_1, e1, h⟩ := asP_el h
          obtain ⟨t6, e6, h⟩ := asI_el h
          obtain ⟨t7, e7, h⟩ := asI_el h
          refine reroot e0 (reroot (upd_other e1 rfl) (reroot (upd_other (upd_other e6 rfl) rfl) (reroot (upd_other (upd_other (upd_other e7 rfl) rfl) rfl) ?_)))
          refine wpc_seq (fun ρ w => asP (ρ 0) fun d_0 => asP (ρ 1) fun i_1 => asI .i64 (ρ 6) fun t6 => asI .i64 (ρ 7) fun t7 => troveref5_Code_Next.j5 d_0 i_1 t6 t7 Q nx1 w) ?_ ?_
          · skip
            refine wpc_block ?_
            refine wpc_pre2 hmix (fun ρ w => asP (ρ 0) fun d_0 => asP (ρ 1) fun i_1 => asI .i64 (ρ 6) fun t6 => asI .i64 (ρ 7) fun t7 => asI .i64 (ρ 8) fun t8 => troveref5_Code_Next.j6 d_0 i_1 t6 t7 t8 Q nx1 w) (Eq.mp (by kernel_rfl) h) ?_
            intro ρ w h
            obtain ⟨d_0, e0, h⟩ := asP_el h
            obtain ⟨i_1, e1, h⟩ := asP_el h
            obtain ⟨t6, e6, h⟩ := asI_el h
            obtain ⟨t7, e7, h⟩ := asI_el h
            obtain ⟨t8, e8, h⟩ := asI_el h
            refine reroot e0 (reroot (upd_other e1 rfl) (reroot (upd_other (upd_other e6 rfl) rfl) (reroot (upd_other (upd_other (upd_other e7 rfl) rfl) rfl) (reroot (upd_other (upd_other (upd_other (upd_other e8 rfl) rfl) rfl) rfl) ?_))))
            refine wpc_pre2 hmix (fun ρ w => asP (ρ 0) fun d_0 => asP (ρ 1) fun i_1 => asI .i64 (ρ 6) fun t6 => asI .i64 (ρ 7) fun t7 => asB (ρ 10) fun t10 => troveref5_Code_Next.j7 d_0 i_1 t6 t7 t10 Q nx1 w) (Eq.mp (by kernel_rfl) h) ?_
            intro ρ w h
            obtain ⟨d_0, e0, h⟩ := asP_el h
            obtain ⟨i_1, e1, h⟩ := asP_el h
            obtain ⟨t6, e6, h⟩ := asI_el h
            obtain ⟨t7, e7, h⟩ := asI_el h
            obtain ⟨t10, e10, h⟩ := asB_el h
            refine reroot e0 (reroot (upd_other e1 rfl) (reroot (upd_other (upd_other e6 rfl) rfl) (reroot (upd_other (upd_other (upd_other e7 rfl) rfl) rfl) (reroot (upd_other (upd_other (upd_other (upd_other e10 rfl) rfl) rfl) rfl) ?_))))
            refine wpc_seq (fun ρ w => asP (ρ 0) fun d_0 => asP (ρ 1) fun i_1 => asI .i64 (ρ 6) fun t6 => asI .i64 (ρ 7) fun t7 => asB (ρ 10) fun t10 => troveref5_Code_Next.j8 d_0 i_1 t6 t7 t10 Q nx1 w) ?_ ?_
            · skip
              refine wpc_seq (fun ρ w => asP (ρ 0) fun d_0 => asP (ρ 1) fun i_1 => asI .i64 (ρ 6) fun t6 => asI .i64 (ρ 7) fun t7 => asB (ρ 10) fun t10 => asI .i64 (ρ 11) fun t11 => troveref5_Code_Next.j9 d_0 i_1 t6 t7 t10 t11 Q nx1 w) ?_ ?_
              · skip
                exact pt_sound hmix _ (Eq.mp (by kernel_rfl) h)
              · intro ρ w h
                obtain ⟨d_0, e0, h⟩ := asP_el h
                obtain ⟨i_1, e1, h⟩ := asP_el h
                obtain ⟨t6, e6, h⟩ := asI_el h
                obtain ⟨t7, e7, h⟩ := asI_el h
                obtain ⟨t10, e10, h⟩ := asB_el h
                obtain ⟨t11, e11, h⟩ := asI_el h
                refine reroot e0 (reroot (upd_other e1 rfl) (reroot (upd_other (upd_other e6 rfl) rfl) (reroot (upd_other (upd_other (upd_other e7 rfl) rfl) rfl) (reroot (upd_other (upd_other (upd_other (upd_other e10 rfl) rfl) rfl) rfl) (reroot (upd_other (upd_other (upd_other (upd_other (upd_other e11 rfl) rfl) rfl) rfl) rfl) ?_)))))
                refine wpc_block ?_
                obtain ⟨I, μ, hI, hr⟩ := h
                refine wpc_loopS (α := Bool × Int) (fun s ρ => ρ 10 = .bool s.1 ∧ ρ 11 = .int .i64 s.2 ∧ ρ 0 = .pointer d_0 ∧ ρ 1 = .pointer i_1 ∧ ρ 6 = .int .i64 t6 ∧ ρ 7 = .int .i64 t7) (fun s w => I s.1 s.2 w) (fun s w => μ s.1 s.2 w) (t10, t11) ⟨rfl, rfl, rfl, rfl, rfl, rfl⟩ hI ?_
                rintro ⟨t10, t11⟩ ρ w ⟨e10, e11, e0, e1, e6, e7⟩ hI
                have h := hr t10 t11 w hI
                clear hr
                obtain ⟨nx2, hnx⟩ : ∃ nx : (Option Addr) → (Option Addr) → Int → Int → Bool → Int → World → Prop, nx = (fun d_0' i_1' t6' t7' t10' t11' w' => (d_0' = d_0 ∧ i_1' = i_1 ∧ t6' = t6 ∧ t7' = t7) ∧ I t10' t11' w' ∧ μ t10' t11' w' < μ t10 t11 w) := ⟨_, rfl⟩
                rw [← hnx] at h
                refine wpc_norm (M := fun ρ w => asP (ρ 0) fun d_0 => asP (ρ 1) fun i_1 => asI .i64 (ρ 6) fun t6 => asI .i64 (ρ 7) fun t7 => asB (ρ 10) fun t10 => asI .i64 (ρ 11) fun t11 => nx2 d_0 i_1 t6 t7 t10 t11 w) ?_ (fun ρ w h => ?_)
                · skip
                  refine reroot e0 (reroot (upd_other e1 rfl) (reroot (upd_other (upd_other e6 rfl) rfl) (reroot (upd_other (upd_other (upd_other e7 rfl) rfl) rfl) (reroot (upd_other (upd_other (upd_other (upd_other e10 rfl) rfl) rfl) rfl) (reroot (upd_other (upd_other (upd_other (upd_other (upd_other e11 rfl) rfl) rfl) rfl) rfl) ?_)))))
                  refine wpc_seq (fun ρ w => asP (ρ 0) fun d_0 => asP (ρ 1) fun i_1 => asI .i64 (ρ 6) fun t6 => asI .i64 (ρ 7) fun t7 => asB (ρ 10) fun t10 => asI .i64 (ρ 11) fun t11 => troveref5_Code_Next.j10 d_0 i_1 t6 t7 t10 t11 Q nx1 nx2 w) ?_ ?_
                  · skip
                    exact pt_sound hmix _ (Eq.mp (by kernel_rfl) h)
                  · intro ρ w h
                    obtain ⟨d_0, e0, h⟩ := asP_el h
                    obtain ⟨i_1, e1, h⟩ := asP_el h
                    obtain ⟨t6, e6, h⟩ := asI_el h
                    obtain ⟨t7, e7, h⟩ := asI_el h
                    obtain ⟨t10, e10, h⟩ := asB_el h
                    obtain ⟨t11, e11, h⟩ := asI_el h
                    refine reroot e0 (reroot (upd_other e1 rfl) (reroot (upd_other (upd_other e6 rfl) rfl) (reroot (upd_other (upd_other (upd_other e7 rfl) rfl) rfl) (reroot (upd_other (upd_other (upd_other (upd_other e10 rfl) rfl) rfl) rfl) (reroot (upd_other (upd_other (upd_other (upd_other (upd_other e11 rfl) rfl) rfl) rfl) rfl) ?_)))))
                    refine wpc_seq (fun ρ w => asP (ρ 0) fun d_0 => asP (ρ 1) fun i_1 => asI .i64 (ρ 6) fun t6 => asI .i64 (ρ 7) fun t7 => asB (ρ 10) fun t10 => asI .i64 (ρ 11) fun t11 => troveref5_Code_Next.j11 d_0 i_1 t6 t7 t10 t11 Q nx1 nx2 w) ?_ ?_
                    · skip
                      refine wpc_block ?_
                      refine wpc_seq (fun ρ w => asP (ρ 0) fun d_0 => asP (ρ 1) fun i_1 => asI .i64 (ρ 6) fun t6 => asI .i64 (ρ 7) fun t7 => asB (ρ 10) fun t10 => asI .i64 (ρ 11) fun t11 => troveref5_Code_Next.j12 d_0 i_1 t6 t7 t10 t11 Q nx1 nx2 w) ?_ ?_
                      · skip
                        exact pt_sound hmix _ (Eq.mp (by kernel_rfl) h)
                      · intro ρ w h
                        obtain ⟨d_0, e0, h⟩ := asP_el h
                        obtain ⟨i_1, e1, h⟩ := asP_el h
                        obtain ⟨t6, e6, h⟩ := asI_el h
                        obtain ⟨t7, e7, h⟩ := asI_el h
                        obtain ⟨t10, e10, h⟩ := asB_el h
                        obtain ⟨t11, e11, h⟩ := asI_el h
                        refine reroot e0 (reroot (upd_other e1 rfl) (reroot (upd_other (upd_other e6 rfl) rfl) (reroot (upd_other (upd_other (upd_other e7 rfl) rfl) rfl) (reroot (upd_other (upd_other (upd_other (upd_other e10 rfl) rfl) rfl) rfl) (reroot (upd_other (upd_other (upd_other (upd_other (upd_other e11 rfl) rfl) rfl) rfl) rfl) ?_)))))
                        exact pt_sound hmix _ (Eq.mp (by kernel_rfl) h)
                    · intro ρ w h
                      obtain ⟨d_0, e0, h⟩ := asP_el h
                      obtain ⟨i_1, e1, h⟩ := asP_el h
                      obtain ⟨t6, e6, h⟩ := asI_el h
                      obtain ⟨t7, e7, h⟩ := asI_el h
                      obtain ⟨t10, e10, h⟩ := asB_el h
                      obtain ⟨t11, e11, h⟩ := asI_el h
                      refine reroot e0 (reroot (upd_other e1 rfl) (reroot (upd_other (upd_other e6 rfl) rfl) (reroot (upd_other (upd_other (upd_other e7 rfl) rfl) rfl) (reroot (upd_other (upd_other (upd_other (upd_other e10 rfl) rfl) rfl) rfl) (reroot (upd_other (upd_other (upd_other (upd_other (upd_other e11 rfl) rfl) rfl) rfl) rfl) ?_)))))
                      exact pt_sound hmix _ (Eq.mp (by kernel_rfl) h)
                · skip
                  obtain ⟨d_0', e0', h⟩ := asP_el h
                  obtain ⟨i_1', e1', h⟩ := asP_el h
                  obtain ⟨t6', e6', h⟩ := asI_el h
                  obtain ⟨t7', e7', h⟩ := asI_el h
                  obtain ⟨t10', e10', h⟩ := asB_el h
                  obtain ⟨t11', e11', h⟩ := asI_el h
                  rw [hnx] at h
                  obtain ⟨hu, hI2, hμ⟩ := h
                  obtain ⟨rfl, rfl, rfl, rfl⟩ := hu
                  exact ⟨(t10', t11'), ⟨e10', e11', e0', e1', e6', e7'⟩, hI2, hμ⟩
            · intro ρ w h
              obtain ⟨d_0, e0, h⟩ := asP_el h
              obtain ⟨i_1, e1, h⟩ := asP_el h
              obtain ⟨t6, e6, h⟩ := asI_el h
              obtain ⟨t7, e7, h⟩ := asI_el h
              obtain ⟨t10, e10, h⟩ := asB_el h
              refine reroot e0 (reroot (upd_other e1 rfl) (reroot (upd_other (upd_other e6 rfl) rfl) (reroot (upd_other (upd_other (upd_other e7 rfl) rfl) rfl) (reroot (upd_other (upd_other (upd_other (upd_other e10 rfl) rfl) rfl) rfl) ?_))))
              exact pt_sound hmix _ (Eq.mp (by kernel_rfl) h)
          · intro ρ w h
            obtain ⟨d_0, e0, h⟩ := asP_el h
            obtain ⟨i_1, e1, h⟩ := asP_el h
            obtain ⟨t6, e6, h⟩ := asI_el h
            obtain ⟨t7, e7, h⟩ := asI_el h
            refine reroot e0 (reroot (upd_other e1 rfl) (reroot (upd_other (upd_other e6 rfl) rfl) (reroot (upd_other (upd_other (upd_other e7 rfl) rfl) rfl) ?_)))
            exact pt_sound hmix _ (Eq.mp (by kernel_rfl) h)
      · skip
        obtain ⟨d_0', e0', h⟩ := asP_el h
        obtain ⟨i_1', e1', h⟩ := asP_el h
        obtain ⟨t6', e6', h⟩ := asI_el h
        obtain ⟨t7', e7', h⟩ := asI_el h
        rw [hnx] at h
        obtain ⟨hu, hI2, hμ⟩ := h
        obtain ⟨rfl, rfl⟩ := hu
        exact ⟨(t6', t7'), ⟨e6', e7', e0', e1'⟩, hI2, hμ⟩
  · intro ρ w h
    exact pt_sound hmix _ (Eq.mp (by kernel_rfl) h)

/-! trove/troveref5.Cost -/
def troveref5_Cost.j2 (n_5 : Int) (Q : Value → World → Prop) (w : World) : Prop :=
  Q (.int .i64 n_5) w

def troveref5_Cost.b1 (lens_0 : Sl) (counts_1 : Sl) (n_5 : Int) (i_6 : Int) (Q : Value → World → Prop) (nx1 : Sl → Sl → Int → Int → World → Prop) (w : World) : Prop :=
  br (decide ((i_6 : Int) < ((lens_0.len : Nat) : Int))) (
  br (decide ((i_6 : Int) < ((counts_1.len : Nat) : Int))) (
  lt (World.drew w) fun w1 =>
  ixS lens_0.a lens_0.len i_6 1 fun a2 =>
  ldI .i64 w1 a2 fun x3 =>
  ixS counts_1.a counts_1.len i_6 1 fun a4 =>
  ldI .i64 w1 a4 fun x5 =>
  lt (IntKind.i64.wrap (x3 * x5)) fun x6 =>
  lt (IntKind.i64.wrap (n_5 + x6)) fun x7 =>
  lt (IntKind.i64.wrap (i_6 + 1)) fun x8 =>
  nx1 lens_0 counts_1 x7 x8 w1) (
  troveref5_Cost.j2 n_5 Q w)) (
  troveref5_Cost.j2 n_5 Q w)

def troveref5_Cost.l1 (lens_0 : Sl) (counts_1 : Sl) (n_5 : Int) (i_6 : Int) (Q : Value → World → Prop) (w : World) : Prop :=
  ∃ (I : Int → Int → World → Prop) (μ : Int → Int → World → Nat), I n_5 i_6 w ∧ ∀ n_5 : Int, ∀ i_6 : Int, ∀ w : World, I n_5 i_6 w → troveref5_Cost.b1 lens_0 counts_1 n_5 i_6 Q (fun lens_0' counts_1' n_5' i_6' w' => (lens_0' = lens_0 ∧ counts_1' = counts_1) ∧ I n_5' i_6' w' ∧ μ n_5' i_6' w' < μ n_5 i_6 w) w

def troveref5_Cost.j3 (lens_0 : Sl) (counts_1 : Sl) (n_5 : Int) (i_6 : Int) (Q : Value → World → Prop) (w : World) : Prop :=
  troveref5_Cost.l1 lens_0 counts_1 n_5 i_6 Q w

def troveref5_Cost.j1 (lens_0 : Sl) (counts_1 : Sl) (n_5 : Int) (Q : Value → World → Prop) (w : World) : Prop :=
  troveref5_Cost.j3 lens_0 counts_1 n_5 0 Q w

def troveref5_Cost (lens_0 : Sl) (counts_1 : Sl) (Q : Value → World → Prop) (w : World) : Prop :=
  troveref5_Cost.j1 lens_0 counts_1 0 Q w

theorem troveref5_Cost.ok (lens_0 : Sl) (counts_1 : Sl) (Q : Value → World → Prop) (w : World) (h : troveref5_Cost lens_0 counts_1 Q w) : Calls Try.prog 106 ⟨[.slice lens_0.a lens_0.len lens_0.cap, .slice counts_1.a counts_1.len counts_1.cap]⟩ w (Ret Q) := by
  refine calls_of_wpc [.tmp 4] Try.func106 rfl rfl rfl rfl ?_
  refine wpc_pre2 hmix (fun ρ w => asL (ρ 0) fun lens_0 => asL (ρ 1) fun counts_1 => asI .i64 (ρ 5) fun n_5 => troveref5_Cost.j1 lens_0 counts_1 n_5 Q w) (Eq.mp (by kernel_rfl) h) ?_
  intro ρ w h
  obtain ⟨lens_0, e0, h⟩ := asL_el h
  obtain ⟨counts_1, e1, h⟩ := asL_el h
  obtain ⟨n_5, e5, h⟩ := asI_el h
  refine reroot e0 (reroot (upd_other e1 rfl) (reroot (upd_other (upd_other e5 rfl) rfl) ?_))
  refine wpc_seq (fun ρ w => asI .i64 (ρ 5) fun n_5 => troveref5_Cost.j2 n_5 Q w) ?_ ?_
  · skip
    refine wpc_seq (fun ρ w => asL (ρ 0) fun lens_0 => asL (ρ 1) fun counts_1 => asI .i64 (ρ 5) fun n_5 => asI .i64 (ρ 6) fun i_6 => troveref5_Cost.j3 lens_0 counts_1 n_5 i_6 Q w) ?_ ?_
    · skip
      exact pt_sound hmix _ (Eq.mp (by kernel_rfl) h)
    · intro ρ w h
      obtain ⟨lens_0, e0, h⟩ := asL_el h
      obtain ⟨counts_1, e1, h⟩ := asL_el h
      obtain ⟨n_5, e5, h⟩ := asI_el h
      obtain ⟨i_6, e6, h⟩ := asI_el h
      refine reroot e0 (reroot (upd_other e1 rfl) (reroot (upd_other (upd_other e5 rfl) rfl) (reroot (upd_other (upd_other (upd_other e6 rfl) rfl) rfl) ?_)))
      refine wpc_block ?_
      obtain ⟨I, μ, hI, hr⟩ := h
      refine wpc_loopS (α := Int × Int) (fun s ρ => ρ 5 = .int .i64 s.1 ∧ ρ 6 = .int .i64 s.2 ∧ ρ 0 = .slice lens_0.a lens_0.len lens_0.cap ∧ ρ 1 = .slice counts_1.a counts_1.len counts_1.cap) (fun s w => I s.1 s.2 w) (fun s w => μ s.1 s.2 w) (n_5, i_6) ⟨rfl, rfl, rfl, rfl⟩ hI ?_
      rintro ⟨n_5, i_6⟩ ρ w ⟨e5, e6, e0, e1⟩ hI
      have h := hr n_5 i_6 w hI
      clear hr
      obtain ⟨nx1, hnx⟩ : ∃ nx : Sl → Sl → Int → Int → World → Prop, nx = (fun lens_0' counts_1' n_5' i_6' w' => (lens_0' = lens_0 ∧ counts_1' = counts_1) ∧ I n_5' i_6' w' ∧ μ n_5' i_6' w' < μ n_5 i_6 w) := ⟨_, rfl⟩
      rw [← hnx] at h
      refine wpc_norm (M := fun ρ w => asL (ρ 0) fun lens_0 => asL (ρ 1) fun counts_1 => asI .i64 (ρ 5) fun n_5 => asI .i64 (ρ 6) fun i_6 => nx1 lens_0 counts_1 n_5 i_6 w) ?_ (fun ρ w h => ?_)
      · skip
        refine reroot e0 (reroot (upd_other e1 rfl) (reroot (upd_other (upd_other e5 rfl) rfl) (reroot (upd_other (upd_other (upd_other e6 rfl) rfl) rfl) ?_)))
        exact pt_sound hmix _ (Eq.mp (by kernel_rfl) h)
      · skip
        obtain ⟨lens_0', e0', h⟩ := asL_el h
        obtain ⟨counts_1', e1', h⟩ := asL_el h
        obtain ⟨n_5', e5', h⟩ := asI_el h
        obtain ⟨i_6', e6', h⟩ := asI_el h
        rw [hnx] at h
        obtain ⟨hu, hI2, hμ⟩ := h
        obtain ⟨rfl, rfl⟩ := hu
        exact ⟨(n_5', i_6'), ⟨e5', e6', e0', e1'⟩, hI2, hμ⟩
  · intro ρ w h
    obtain ⟨n_5, e5, h⟩ := asI_el h
    refine reroot e5 ?_
    exact pt_sound hmix _ (Eq.mp (by kernel_rfl) h)

end Go.Proofs.Ytkajimndclhgaaa
