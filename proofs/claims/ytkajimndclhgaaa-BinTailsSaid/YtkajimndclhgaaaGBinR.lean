/- PRINTED BY gen.py (own work): what calls come to, and the proofs of it. -/
import Derived.Test.YtkajimndclhgaaaVcJ
import Derived.Test.YtkajimndclhgaaaProg
namespace Go.Proofs.Ytkajimndclhgaaa
open Go Go.Proofs
set_option linter.unusedVariables false
set_option maxRecDepth 100000

/-! (*trove/troveref1.Reader).Left -/
def troveref1_Reader_Left (r_0 : (Option Addr)) (Q : Value → World → Prop) (w : World) : Prop :=
  nz r_0 fun a1 =>
  ldI .i64 w (Addr.add a1 2) fun x2 =>
  br ((x2 : Int) != 0) (
  Q (.int .i64 0) w) (
  lt (World.drew w) fun w3 =>
  nz r_0 fun a4 =>
  ldL w3 (Addr.add a4 0) fun x5 =>
  nz r_0 fun a6 =>
  ldI .i64 w3 (Addr.add a6 1) fun x7 =>
  lt (IntKind.i64.wrap (((x5.len : Nat) : Int) - x7)) fun x8 =>
  Q (.int .i64 x8) w3)

theorem troveref1_Reader_Left.ok (r_0 : (Option Addr)) (Q : Value → World → Prop) (w : World) (h : troveref1_Reader_Left r_0 Q w) : Calls Try.prog 88 ⟨[.pointer r_0]⟩ w (Ret Q) := by
  refine calls_of_wpc [.tmp 2] Try.func88 rfl rfl rfl rfl ?_
  exact pt_sound hmix _ (Eq.mp (by kernel_rfl) h)

/-! (*trove/troveref1.Reader).Bytes -/
def troveref1_Reader_Bytes (r_0 : (Option Addr)) (n_1 : Int) (Q : Value → World → Prop) (w : World) : Prop :=
  nz r_0 fun a1 =>
  ldI .i64 w (Addr.add a1 2) fun x2 =>
  br ((x2 : Int) != 0) (
  Q (.slice none 0 0) w) (
  lt (World.drew w) fun w3 =>
  br (decide ((n_1 : Int) < 0)) (
  nz r_0 fun a4 =>
  st w3 (Addr.add a4 2) (.int .i64 3) fun w5 =>
  Q (.slice none 0 0) w5) (
  nz r_0 fun a6 =>
  ldL w3 (Addr.add a6 0) fun x7 =>
  nz r_0 fun a8 =>
  ldI .i64 w3 (Addr.add a8 1) fun x9 =>
  lt (IntKind.i64.wrap (((x7.len : Nat) : Int) - x9)) fun x10 =>
  br (decide ((n_1 : Int) > x10)) (
  nz r_0 fun a11 =>
  st w3 (Addr.add a11 2) (.int .i64 3) fun w12 =>
  Q (.slice none 0 0) w12) (
  lt (World.drew w3) fun w13 =>
  nz r_0 fun a14 =>
  ldL w13 (Addr.add a14 0) fun x15 =>
  nz r_0 fun a16 =>
  ldI .i64 w13 (Addr.add a16 1) fun x17 =>
  nz r_0 fun a18 =>
  ldI .i64 w13 (Addr.add a18 1) fun x19 =>
  lt (IntKind.i64.wrap (x19 + n_1)) fun x20 =>
  bd x20 x15.cap fun n21 =>
  bd x17 n21 fun n22 =>
  lt (⟨cutA x15.a x15.cap n22 1, n21 - n22, x15.cap - n22⟩ : Sl) fun s23 =>
  lt (⟨World.heapSize w13, 0, none⟩ : Addr) fun a24 =>
  lt (World.alloc w13 (.cells ⟨[]⟩ 5)) fun w25 =>
  rdO w25 s23.a (s23.len * 1) fun c26 =>
  apK Try.prog 5 w25 (some a24) 0 0 s23.len c26 fun s27 w28 =>
  nz r_0 fun a29 =>
  ldI .i64 w28 (Addr.add a29 1) fun x30 =>
  lt (IntKind.i64.wrap (x30 + n_1)) fun x31 =>
  nz r_0 fun a32 =>
  st w28 (Addr.add a32 1) (.int .i64 x31) fun w33 =>
  Q (.slice s27.a s27.len s27.cap) w33)))

theorem troveref1_Reader_Bytes.ok (r_0 : (Option Addr)) (n_1 : Int) (Q : Value → World → Prop) (w : World) (h : troveref1_Reader_Bytes r_0 n_1 Q w) : Calls Try.prog 87 ⟨[.pointer r_0, .int .i64 n_1]⟩ w (Ret Q) := by
  refine calls_of_wpc [.tmp 4] Try.func87 rfl rfl rfl rfl ?_
  exact pt_sound hmix _ (Eq.mp (by kernel_rfl) h)

/-! (*trove/troveref1.Reader).Number -/
def troveref1_Reader_Number.j3 (r_0 : (Option Addr)) (was_5 : Int) (u_7 : Int) (Q : Value → World → Prop) (w : World) : Prop :=
  br (decide ((u_7 : Int) > 9223372036854775807)) (
  nz r_0 fun a1 =>
  st w (Addr.add a1 1) (.int .i64 was_5) fun w2 =>
  nz r_0 fun a3 =>
  st w2 (Addr.add a3 2) (.int .i64 5) fun w4 =>
  Q (.int .i64 0) w4) (
  lt (IntKind.i64.wrap u_7) fun x5 =>
  Q (.int .i64 x5) w)

def troveref1_Reader_Number.b1 (r_0 : (Option Addr)) (was_5 : Int) (x_6 : Sl) (u_7 : Int) (i_8 : Int) (Q : Value → World → Prop) (nx1 : (Option Addr) → Int → Sl → Int → Int → World → Prop) (w : World) : Prop :=
  br (decide ((i_8 : Int) < ((x_6.len : Nat) : Int))) (
  (0 : Int) ≤ 8 ∧
  lt (shlV .u64 u_7 8) fun x6 =>
  ixS x_6.a x_6.len i_8 1 fun a7 =>
  ldI .u8 w a7 fun x8 =>
  lt (IntKind.u64.wrap x8) fun x9 =>
  lt (orV .u64 x6 x9) fun x10 =>
  lt (IntKind.i64.wrap (i_8 + 1)) fun x11 =>
  nx1 r_0 was_5 x_6 x10 x11 w) (
  troveref1_Reader_Number.j3 r_0 was_5 u_7 Q w)

def troveref1_Reader_Number.l1 (r_0 : (Option Addr)) (was_5 : Int) (x_6 : Sl) (u_7 : Int) (i_8 : Int) (Q : Value → World → Prop) (w : World) : Prop :=
  ∃ (I : Int → Int → World → Prop) (μ : Int → Int → World → Nat), I u_7 i_8 w ∧ ∀ u_7 : Int, ∀ i_8 : Int, ∀ w : World, I u_7 i_8 w → troveref1_Reader_Number.b1 r_0 was_5 x_6 u_7 i_8 Q (fun r_0' was_5' x_6' u_7' i_8' w' => (r_0' = r_0 ∧ was_5' = was_5 ∧ x_6' = x_6) ∧ I u_7' i_8' w' ∧ μ u_7' i_8' w' < μ u_7 i_8 w) w

def troveref1_Reader_Number.j4 (r_0 : (Option Addr)) (was_5 : Int) (x_6 : Sl) (u_7 : Int) (i_8 : Int) (Q : Value → World → Prop) (w : World) : Prop :=
  troveref1_Reader_Number.l1 r_0 was_5 x_6 u_7 i_8 Q w

def troveref1_Reader_Number.j2 (r_0 : (Option Addr)) (was_5 : Int) (x_6 : Sl) (u_7 : Int) (Q : Value → World → Prop) (w : World) : Prop :=
  troveref1_Reader_Number.j4 r_0 was_5 x_6 u_7 0 Q w

def troveref1_Reader_Number.j1 (r_0 : (Option Addr)) (n_1 : Int) (was_5 : Int) (Q : Value → World → Prop) (w : World) : Prop :=
  Calls Try.prog 87 ⟨[.pointer r_0, .int .i64 n_1]⟩ w fun e12 w13 =>
  ∃ r14 : Sl, e12 = .returned (.slice r14.a r14.len r14.cap) ∧
  troveref1_Reader_Number.j2 r_0 was_5 r14 0 Q w13

def troveref1_Reader_Number (r_0 : (Option Addr)) (n_1 : Int) (Q : Value → World → Prop) (w : World) : Prop :=
  nz r_0 fun a15 =>
  ldI .i64 w (Addr.add a15 1) fun x16 =>
  troveref1_Reader_Number.j1 r_0 n_1 x16 Q w

theorem troveref1_Reader_Number.ok (r_0 : (Option Addr)) (n_1 : Int) (Q : Value → World → Prop) (w : World) (h : troveref1_Reader_Number r_0 n_1 Q w) : Calls Try.prog 85 ⟨[.pointer r_0, .int .i64 n_1]⟩ w (Ret Q) := by
  refine calls_of_wpc [.tmp 4] Try.func85 rfl rfl rfl rfl ?_
  refine wpc_pre2 hmix (fun ρ w => asP (ρ 0) fun r_0 => asI .i64 (ρ 1) fun n_1 => asI .i64 (ρ 5) fun was_5 => troveref1_Reader_Number.j1 r_0 n_1 was_5 Q w) (Eq.mp (by kernel_rfl) h) ?_
  intro ρ w h
  obtain ⟨r_0, e0, h⟩ := asP_el h
  obtain ⟨n_1, e1, h⟩ := asI_el h
  obtain ⟨was_5, e5, h⟩ := asI_el h
  refine reroot e0 (reroot (upd_other e1 rfl) (reroot (upd_other (upd_other e5 rfl) rfl) ?_))
  refine wpc_pre2 hmix (fun ρ w => asP (ρ 0) fun r_0 => asI .i64 (ρ 5) fun was_5 => asL (ρ 6) fun x_6 => asI .u64 (ρ 7) fun u_7 => troveref1_Reader_Number.j2 r_0 was_5 x_6 u_7 Q w) (Eq.mp (by kernel_rfl) h) ?_
  intro ρ w h
  obtain ⟨r_0, e0, h⟩ := asP_el h
  obtain ⟨was_5, e5, h⟩ := asI_el h
  obtain ⟨x_6, e6, h⟩ := asL_el h
  obtain ⟨u_7, e7, h⟩ := asI_el h
  refine reroot e0 (reroot (upd_other e5 rfl) (reroot (upd_other (upd_other e6 rfl) rfl) (reroot (upd_other (upd_other (upd_other e7 rfl) rfl) rfl) ?_)))
  refine wpc_seq (fun ρ w => asP (ρ 0) fun r_0 => asI .i64 (ρ 5) fun was_5 => asI .u64 (ρ 7) fun u_7 => troveref1_Reader_Number.j3 r_0 was_5 u_7 Q w) ?_ ?_
  · skip
    refine wpc_seq (fun ρ w => asP (ρ 0) fun r_0 => asI .i64 (ρ 5) fun was_5 => asL (ρ 6) fun x_6 => asI .u64 (ρ 7) fun u_7 => asI .i64 (ρ 8) fun i_8 => troveref1_Reader_Number.j4 r_0 was_5 x_6 u_7 i_8 Q w) ?_ ?_
    · skip
      exact pt_sound hmix _ (Eq.mp (by kernel_rfl) h)
    · intro ρ w h
      obtain ⟨r_0, e0, h⟩ := asP_el h
      obtain ⟨was_5, e5, h⟩ := asI_el h
      obtain ⟨x_6, e6, h⟩ := asL_el h
      obtain ⟨u_7, e7, h⟩ := asI_el h
      obtain ⟨i_8, e8, h⟩ := asI_el h
      refine reroot e0 (reroot (upd_other e5 rfl) (reroot (upd_other (upd_other e6 rfl) rfl) (reroot (upd_other (upd_other (upd_other e7 rfl) rfl) rfl) (reroot (upd_other (upd_other (upd_other (upd_other e8 rfl) rfl) rfl) rfl) ?_))))
      refine wpc_block ?_
      obtain ⟨I, μ, hI, hr⟩ := h
      refine wpc_loopS (α := Int × Int) (fun s ρ => ρ 7 = .int .u64 s.1 ∧ ρ 8 = .int .i64 s.2 ∧ ρ 0 = .pointer r_0 ∧ ρ 5 = .int .i64 was_5 ∧ ρ 6 = .slice x_6.a x_6.len x_6.cap) (fun s w => I s.1 s.2 w) (fun s w => μ s.1 s.2 w) (u_7, i_8) ⟨rfl, rfl, rfl, rfl, rfl⟩ hI ?_
      rintro ⟨u_7, i_8⟩ ρ w ⟨e7, e8, e0, e5, e6⟩ hI
      have h := hr u_7 i_8 w hI
      clear hr
      obtain ⟨nx1, hnx⟩ : ∃ nx : (Option Addr) → Int → Sl → Int → Int → World → Prop, nx = (fun r_0' was_5' x_6' u_7' i_8' w' => (r_0' = r_0 ∧ was_5' = was_5 ∧ x_6' = x_6) ∧ I u_7' i_8' w' ∧ μ u_7' i_8' w' < μ u_7 i_8 w) := ⟨_, rfl⟩
      rw [← hnx] at h
      refine wpc_norm (M := fun ρ w => asP (ρ 0) fun r_0 => asI .i64 (ρ 5) fun was_5 => asL (ρ 6) fun x_6 => asI .u64 (ρ 7) fun u_7 => asI .i64 (ρ 8) fun i_8 => nx1 r_0 was_5 x_6 u_7 i_8 w) ?_ (fun ρ w h => ?_)
      · skip
        refine reroot e0 (reroot (upd_other e5 rfl) (reroot (upd_other (upd_other e6 rfl) rfl) (reroot (upd_other (upd_other (upd_other e7 rfl) rfl) rfl) (reroot (upd_other (upd_other (upd_other (upd_other e8 rfl) rfl) rfl) rfl) ?_))))
        exact pt_sound hmix _ (Eq.mp (by kernel_rfl) h)
      · skip
        obtain ⟨r_0', e0', h⟩ := asP_el h
        obtain ⟨was_5', e5', h⟩ := asI_el h
        obtain ⟨x_6', e6', h⟩ := asL_el h
        obtain ⟨u_7', e7', h⟩ := asI_el h
        obtain ⟨i_8', e8', h⟩ := asI_el h
        rw [hnx] at h
        obtain ⟨hu, hI2, hμ⟩ := h
        obtain ⟨rfl, rfl, rfl⟩ := hu
        exact ⟨(u_7', i_8'), ⟨e7', e8', e0', e5', e6'⟩, hI2, hμ⟩
  · intro ρ w h
    obtain ⟨r_0, e0, h⟩ := asP_el h
    obtain ⟨was_5, e5, h⟩ := asI_el h
    obtain ⟨u_7, e7, h⟩ := asI_el h
    refine reroot e0 (reroot (upd_other e5 rfl) (reroot (upd_other (upd_other e7 rfl) rfl) ?_))
    exact pt_sound hmix _ (Eq.mp (by kernel_rfl) h)

end Go.Proofs.Ytkajimndclhgaaa
