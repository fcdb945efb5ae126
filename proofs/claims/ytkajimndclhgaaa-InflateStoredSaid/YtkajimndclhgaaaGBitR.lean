/- PRINTED BY gen.py (own work): what calls come to, and the proofs of it. -/
import Derived.Test.YtkajimndclhgaaaVcJ
import Derived.Test.YtkajimndclhgaaaProg
namespace Go.Proofs.Ytkajimndclhgaaa
open Go Go.Proofs
set_option linter.unusedVariables false
set_option maxRecDepth 100000

/-! trove/troveref2.Turn -/
def troveref2_Turn.j3 (x_5 : Int) (Q : Value → World → Prop) (w : World) : Prop :=
  Q (.int .i64 x_5) w

def troveref2_Turn.b1 (v_0 : Int) (n_1 : Int) (x_5 : Int) (i_6 : Int) (Q : Value → World → Prop) (nx1 : Int → Int → Int → Int → World → Prop) (w : World) : Prop :=
  br (decide ((i_6 : Int) < n_1)) (
  (0 : Int) ≤ 1 ∧
  lt (shlV .i64 x_5 1) fun x1 =>
  lt (IntKind.u64.wrap i_6) fun x2 =>
  (0 : Int) ≤ x2 ∧
  lt (shrV .i64 v_0 x2) fun x3 =>
  lt (andV .i64 x3 1) fun x4 =>
  lt (orV .i64 x1 x4) fun x5 =>
  lt (IntKind.i64.wrap (i_6 + 1)) fun x6 =>
  nx1 v_0 n_1 x5 x6 w) (
  troveref2_Turn.j3 x_5 Q w)

def troveref2_Turn.l1 (v_0 : Int) (n_1 : Int) (x_5 : Int) (i_6 : Int) (Q : Value → World → Prop) (w : World) : Prop :=
  ∃ (I : Int → Int → World → Prop) (μ : Int → Int → World → Nat), I x_5 i_6 w ∧ ∀ x_5 : Int, ∀ i_6 : Int, ∀ w : World, I x_5 i_6 w → troveref2_Turn.b1 v_0 n_1 x_5 i_6 Q (fun v_0' n_1' x_5' i_6' w' => (v_0' = v_0 ∧ n_1' = n_1) ∧ I x_5' i_6' w' ∧ μ x_5' i_6' w' < μ x_5 i_6 w) w

def troveref2_Turn.j4 (v_0 : Int) (n_1 : Int) (x_5 : Int) (i_6 : Int) (Q : Value → World → Prop) (w : World) : Prop :=
  troveref2_Turn.l1 v_0 n_1 x_5 i_6 Q w

def troveref2_Turn.j2 (v_0 : Int) (n_1 : Int) (x_5 : Int) (Q : Value → World → Prop) (w : World) : Prop :=
  troveref2_Turn.j4 v_0 n_1 x_5 0 Q w

def troveref2_Turn.j1 (v_0 : Int) (n_1 : Int) (Q : Value → World → Prop) (w : World) : Prop :=
  br (decide ((n_1 : Int) < 0)) (
  Q (.int .i64 0) w) (
  br (decide ((n_1 : Int) > 24)) (
  Q (.int .i64 0) w) (
  troveref2_Turn.j2 v_0 n_1 0 Q w))

def troveref2_Turn (v_0 : Int) (n_1 : Int) (Q : Value → World → Prop) (w : World) : Prop :=
  troveref2_Turn.j1 v_0 n_1 Q w

theorem troveref2_Turn.ok (v_0 : Int) (n_1 : Int) (Q : Value → World → Prop) (w : World) (h : troveref2_Turn v_0 n_1 Q w) : Calls Try.prog 40 ⟨[.int .i64 v_0, .int .i64 n_1]⟩ w (Ret Q) := by
  refine calls_of_wpc [.tmp 4] Try.func40 rfl rfl rfl rfl ?_
  refine wpc_seq (fun ρ w => asI .i64 (ρ 0) fun v_0 => asI .i64 (ρ 1) fun n_1 => troveref2_Turn.j1 v_0 n_1 Q w) ?_ ?_
  · skip
    exact pt_sound hmix _ (Eq.mp (by kernel_rfl) h)
  · intro ρ w h
    obtain ⟨v_0, e0, h⟩ := asI_el h
    obtain ⟨n_1, e1, h⟩ := asI_el h
    refine reroot e0 (reroot (upd_other e1 rfl) ?_)
    refine wpc_pre2 hmix (fun ρ w => asI .i64 (ρ 0) fun v_0 => asI .i64 (ρ 1) fun n_1 => asI .i64 (ρ 5) fun x_5 => troveref2_Turn.j2 v_0 n_1 x_5 Q w) (Eq.mp (by kernel_rfl) h) ?_
    intro ρ w h
    obtain ⟨v_0, e0, h⟩ := asI_el h
    obtain ⟨n_1, e1, h⟩ := asI_el h
    obtain ⟨x_5, e5, h⟩ := asI_el h
    refine reroot e0 (reroot (upd_other e1 rfl) (reroot (upd_other (upd_other e5 rfl) rfl) ?_))
    refine wpc_seq (fun ρ w => asI .i64 (ρ 5) fun x_5 => troveref2_Turn.j3 x_5 Q w) ?_ ?_
    · skip
      refine wpc_seq (fun ρ w => asI .i64 (ρ 0) fun v_0 => asI .i64 (ρ 1) fun n_1 => asI .i64 (ρ 5) fun x_5 => asI .i64 (ρ 6) fun i_6 => troveref2_Turn.j4 v_0 n_1 x_5 i_6 Q w) ?_ ?_
      · skip
        exact pt_sound hmix _ (Eq.mp (by kernel_rfl) h)
      · intro ρ w h
        obtain ⟨v_0, e0, h⟩ := asI_el h
        obtain ⟨n_1, e1, h⟩ := asI_el h
        obtain ⟨x_5, e5, h⟩ := asI_el h
        obtain ⟨i_6, e6, h⟩ := asI_el h
        refine reroot e0 (reroot (upd_other e1 rfl) (reroot (upd_other (upd_other e5 rfl) rfl) (reroot (upd_other (upd_other (upd_other e6 rfl) rfl) rfl) ?_)))
        refine wpc_block ?_
        obtain ⟨I, μ, hI, hr⟩ := h
        refine wpc_loopS (α := Int × Int) (fun s ρ => ρ 5 = .int .i64 s.1 ∧ ρ 6 = .int .i64 s.2 ∧ ρ 0 = .int .i64 v_0 ∧ ρ 1 = .int .i64 n_1) (fun s w => I s.1 s.2 w) (fun s w => μ s.1 s.2 w) (x_5, i_6) ⟨rfl, rfl, rfl, rfl⟩ hI ?_
        rintro ⟨x_5, i_6⟩ ρ w ⟨e5, e6, e0, e1⟩ hI
        have h := hr x_5 i_6 w hI
        clear hr
        obtain ⟨nx1, hnx⟩ : ∃ nx : Int → Int → Int → Int → World → Prop, nx = (fun v_0' n_1' x_5' i_6' w' => (v_0' = v_0 ∧ n_1' = n_1) ∧ I x_5' i_6' w' ∧ μ x_5' i_6' w' < μ x_5 i_6 w) := ⟨_, rfl⟩
        rw [← hnx] at h
        refine wpc_norm (M := fun ρ w => asI .i64 (ρ 0) fun v_0 => asI .i64 (ρ 1) fun n_1 => asI .i64 (ρ 5) fun x_5 => asI .i64 (ρ 6) fun i_6 => nx1 v_0 n_1 x_5 i_6 w) ?_ (fun ρ w h => ?_)
        · skip
          refine reroot e0 (reroot (upd_other e1 rfl) (reroot (upd_other (upd_other e5 rfl) rfl) (reroot (upd_other (upd_other (upd_other e6 rfl) rfl) rfl) ?_)))
          exact pt_sound hmix _ (Eq.mp (by kernel_rfl) h)
        · skip
          obtain ⟨v_0', e0', h⟩ := asI_el h
          obtain ⟨n_1', e1', h⟩ := asI_el h
          obtain ⟨x_5', e5', h⟩ := asI_el h
          obtain ⟨i_6', e6', h⟩ := asI_el h
          rw [hnx] at h
          obtain ⟨hu, hI2, hμ⟩ := h
          obtain ⟨rfl, rfl⟩ := hu
          exact ⟨(x_5', i_6'), ⟨e5', e6', e0', e1'⟩, hI2, hμ⟩
    · intro ρ w h
      obtain ⟨x_5, e5, h⟩ := asI_el h
      refine reroot e5 ?_
      exact pt_sound hmix _ (Eq.mp (by kernel_rfl) h)

/-! (*trove/troveref2.Writer).Put -/
def troveref2_Writer_Put.b1 (w_0 : (Option Addr)) (v_1 : Int) (n_2 : Int) (i_6 : Int) (Q : Value → World → Prop) (nx1 : (Option Addr) → Int → Int → Int → World → Prop) (w : World) : Prop :=
  br (decide ((i_6 : Int) < n_2)) (
  nz w_0 fun a1 =>
  ldL w (Addr.add a1 0) fun x2 =>
  lt (IntKind.u64.wrap i_6) fun x3 =>
  (0 : Int) ≤ x3 ∧
  lt (shrV .i64 v_1 x3) fun x4 =>
  lt (andV .i64 x4 1) fun x5 =>
  lt (⟨World.heapSize w, 0, none⟩ : Addr) fun a6 =>
  lt (World.alloc w (.cells ⟨[.bool ((x5 : Int) == 1)]⟩ 4)) fun w7 =>
  rdO w7 (some a6) (1 * 1) fun c8 =>
  apK Try.prog 4 w7 x2.a x2.len x2.cap 1 c8 fun s9 w10 =>
  nz w_0 fun a11 =>
  st w10 (Addr.add a11 0) (.slice s9.a s9.len s9.cap) fun w12 =>
  lt (IntKind.i64.wrap (i_6 + 1)) fun x13 =>
  nx1 w_0 v_1 n_2 x13 w12) (
  Q (.tuple ⟨[]⟩) w)

def troveref2_Writer_Put.l1 (w_0 : (Option Addr)) (v_1 : Int) (n_2 : Int) (i_6 : Int) (Q : Value → World → Prop) (w : World) : Prop :=
  ∃ (I : Int → World → Prop) (μ : Int → World → Nat), I i_6 w ∧ ∀ i_6 : Int, ∀ w : World, I i_6 w → troveref2_Writer_Put.b1 w_0 v_1 n_2 i_6 Q (fun w_0' v_1' n_2' i_6' w' => (w_0' = w_0 ∧ v_1' = v_1 ∧ n_2' = n_2) ∧ I i_6' w' ∧ μ i_6' w' < μ i_6 w) w

def troveref2_Writer_Put.j1 (w_0 : (Option Addr)) (v_1 : Int) (n_2 : Int) (i_6 : Int) (Q : Value → World → Prop) (w : World) : Prop :=
  troveref2_Writer_Put.l1 w_0 v_1 n_2 i_6 Q w

def troveref2_Writer_Put (w_0 : (Option Addr)) (v_1 : Int) (n_2 : Int) (Q : Value → World → Prop) (w : World) : Prop :=
  br (decide ((n_2 : Int) < 0)) (
  Q (.tuple ⟨[]⟩) w) (
  br (decide ((n_2 : Int) > 24)) (
  Q (.tuple ⟨[]⟩) w) (
  troveref2_Writer_Put.j1 w_0 v_1 n_2 0 Q w))

theorem troveref2_Writer_Put.ok (w_0 : (Option Addr)) (v_1 : Int) (n_2 : Int) (Q : Value → World → Prop) (w : World) (h : troveref2_Writer_Put w_0 v_1 n_2 Q w) : Calls Try.prog 42 ⟨[.pointer w_0, .int .i64 v_1, .int .i64 n_2]⟩ w (Ret Q) := by
  refine calls_of_wpc [] Try.func42 rfl rfl rfl rfl ?_
  refine wpc_pre2 hmix (fun ρ w => asP (ρ 0) fun w_0 => asI .i64 (ρ 1) fun v_1 => asI .i64 (ρ 2) fun n_2 => asI .i64 (ρ 6) fun i_6 => troveref2_Writer_Put.j1 w_0 v_1 n_2 i_6 Q w) (Eq.mp (by kernel_rfl) h) ?_
  intro ρ w h
  obtain ⟨w_0, e0, h⟩ := asP_el h
  obtain ⟨v_1, e1, h⟩ := asI_el h
  obtain ⟨n_2, e2, h⟩ := asI_el h
  obtain ⟨i_6, e6, h⟩ := asI_el h
  refine reroot e0 (reroot (upd_other e1 rfl) (reroot (upd_other (upd_other e2 rfl) rfl) (reroot (upd_other (upd_other (upd_other e6 rfl) rfl) rfl) ?_)))
  refine wpc_block ?_
  obtain ⟨I, μ, hI, hr⟩ := h
  refine wpc_loopS (α := Int) (fun s ρ => ρ 6 = .int .i64 s ∧ ρ 0 = .pointer w_0 ∧ ρ 1 = .int .i64 v_1 ∧ ρ 2 = .int .i64 n_2) (fun s w => I s w) (fun s w => μ s w) i_6 ⟨rfl, rfl, rfl, rfl⟩ hI ?_
  rintro i_6 ρ w ⟨e6, e0, e1, e2⟩ hI
  have h := hr i_6 w hI
  clear hr
  obtain ⟨nx1, hnx⟩ : ∃ nx : (Option Addr) → Int → Int → Int → World → Prop, nx = (fun w_0' v_1' n_2' i_6' w' => (w_0' = w_0 ∧ v_1' = v_1 ∧ n_2' = n_2) ∧ I i_6' w' ∧ μ i_6' w' < μ i_6 w) := ⟨_, rfl⟩
  rw [← hnx] at h
  refine wpc_norm (M := fun ρ w => asP (ρ 0) fun w_0 => asI .i64 (ρ 1) fun v_1 => asI .i64 (ρ 2) fun n_2 => asI .i64 (ρ 6) fun i_6 => nx1 w_0 v_1 n_2 i_6 w) ?_ (fun ρ w h => ?_)
  · skip
    refine reroot e0 (reroot (upd_other e1 rfl) (reroot (upd_other (upd_other e2 rfl) rfl) (reroot (upd_other (upd_other (upd_other e6 rfl) rfl) rfl) ?_)))
    exact pt_sound hmix _ (Eq.mp (by kernel_rfl) h)
  · skip
    obtain ⟨w_0', e0', h⟩ := asP_el h
    obtain ⟨v_1', e1', h⟩ := asI_el h
    obtain ⟨n_2', e2', h⟩ := asI_el h
    obtain ⟨i_6', e6', h⟩ := asI_el h
    rw [hnx] at h
    obtain ⟨hu, hI2, hμ⟩ := h
    obtain ⟨rfl, rfl, rfl⟩ := hu
    exact ⟨i_6', ⟨e6', e0', e1', e2'⟩, hI2, hμ⟩

/-! (*trove/troveref2.Writer).Code -/
def troveref2_Writer_Code.b1 (w_0 : (Option Addr)) (v_1 : Int) (i_6 : Int) (Q : Value → World → Prop) (nx1 : (Option Addr) → Int → Int → World → Prop) (w : World) : Prop :=
  br (decide ((i_6 : Int) ≥ 0)) (
  nz w_0 fun a1 =>
  ldL w (Addr.add a1 0) fun x2 =>
  lt (IntKind.u64.wrap i_6) fun x3 =>
  (0 : Int) ≤ x3 ∧
  lt (shrV .i64 v_1 x3) fun x4 =>
  lt (andV .i64 x4 1) fun x5 =>
  lt (⟨World.heapSize w, 0, none⟩ : Addr) fun a6 =>
  lt (World.alloc w (.cells ⟨[.bool ((x5 : Int) == 1)]⟩ 4)) fun w7 =>
  rdO w7 (some a6) (1 * 1) fun c8 =>
  apK Try.prog 4 w7 x2.a x2.len x2.cap 1 c8 fun s9 w10 =>
  nz w_0 fun a11 =>
  st w10 (Addr.add a11 0) (.slice s9.a s9.len s9.cap) fun w12 =>
  lt (IntKind.i64.wrap (i_6 - 1)) fun x13 =>
  nx1 w_0 v_1 x13 w12) (
  Q (.tuple ⟨[]⟩) w)

def troveref2_Writer_Code.l1 (w_0 : (Option Addr)) (v_1 : Int) (i_6 : Int) (Q : Value → World → Prop) (w : World) : Prop :=
  ∃ (I : Int → World → Prop) (μ : Int → World → Nat), I i_6 w ∧ ∀ i_6 : Int, ∀ w : World, I i_6 w → troveref2_Writer_Code.b1 w_0 v_1 i_6 Q (fun w_0' v_1' i_6' w' => (w_0' = w_0 ∧ v_1' = v_1) ∧ I i_6' w' ∧ μ i_6' w' < μ i_6 w) w

def troveref2_Writer_Code.j1 (w_0 : (Option Addr)) (v_1 : Int) (i_6 : Int) (Q : Value → World → Prop) (w : World) : Prop :=
  troveref2_Writer_Code.l1 w_0 v_1 i_6 Q w

def troveref2_Writer_Code (w_0 : (Option Addr)) (v_1 : Int) (n_2 : Int) (Q : Value → World → Prop) (w : World) : Prop :=
  br (decide ((n_2 : Int) < 0)) (
  Q (.tuple ⟨[]⟩) w) (
  br (decide ((n_2 : Int) > 24)) (
  Q (.tuple ⟨[]⟩) w) (
  lt (IntKind.i64.wrap (n_2 - 1)) fun x14 =>
  troveref2_Writer_Code.j1 w_0 v_1 x14 Q w))

theorem troveref2_Writer_Code.ok (w_0 : (Option Addr)) (v_1 : Int) (n_2 : Int) (Q : Value → World → Prop) (w : World) (h : troveref2_Writer_Code w_0 v_1 n_2 Q w) : Calls Try.prog 43 ⟨[.pointer w_0, .int .i64 v_1, .int .i64 n_2]⟩ w (Ret Q) := by
  refine calls_of_wpc [] Try.func43 rfl rfl rfl rfl ?_
  refine wpc_pre2 hmix (fun ρ w => asP (ρ 0) fun w_0 => asI .i64 (ρ 1) fun v_1 => asI .i64 (ρ 6) fun i_6 => troveref2_Writer_Code.j1 w_0 v_1 i_6 Q w) (Eq.mp (by kernel_rfl) h) ?_
  intro ρ w h
  obtain ⟨w_0, e0, h⟩ := asP_el h
  obtain ⟨v_1, e1, h⟩ := asI_el h
  obtain ⟨i_6, e6, h⟩ := asI_el h
  refine reroot e0 (reroot (upd_other e1 rfl) (reroot (upd_other (upd_other e6 rfl) rfl) ?_))
  refine wpc_block ?_
  obtain ⟨I, μ, hI, hr⟩ := h
  refine wpc_loopS (α := Int) (fun s ρ => ρ 6 = .int .i64 s ∧ ρ 0 = .pointer w_0 ∧ ρ 1 = .int .i64 v_1) (fun s w => I s w) (fun s w => μ s w) i_6 ⟨rfl, rfl, rfl⟩ hI ?_
  rintro i_6 ρ w ⟨e6, e0, e1⟩ hI
  have h := hr i_6 w hI
  clear hr
  obtain ⟨nx1, hnx⟩ : ∃ nx : (Option Addr) → Int → Int → World → Prop, nx = (fun w_0' v_1' i_6' w' => (w_0' = w_0 ∧ v_1' = v_1) ∧ I i_6' w' ∧ μ i_6' w' < μ i_6 w) := ⟨_, rfl⟩
  rw [← hnx] at h
  refine wpc_norm (M := fun ρ w => asP (ρ 0) fun w_0 => asI .i64 (ρ 1) fun v_1 => asI .i64 (ρ 6) fun i_6 => nx1 w_0 v_1 i_6 w) ?_ (fun ρ w h => ?_)
  · skip
    refine reroot e0 (reroot (upd_other e1 rfl) (reroot (upd_other (upd_other e6 rfl) rfl) ?_))
    exact pt_sound hmix _ (Eq.mp (by kernel_rfl) h)
  · skip
    obtain ⟨w_0', e0', h⟩ := asP_el h
    obtain ⟨v_1', e1', h⟩ := asI_el h
    obtain ⟨i_6', e6', h⟩ := asI_el h
    rw [hnx] at h
    obtain ⟨hu, hI2, hμ⟩ := h
    obtain ⟨rfl, rfl⟩ := hu
    exact ⟨i_6', ⟨e6', e0', e1'⟩, hI2, hμ⟩

/-! (*trove/troveref2.Writer).Byte -/
def troveref2_Writer_Byte (w_0 : (Option Addr)) (b_1 : Int) (Q : Value → World → Prop) (w : World) : Prop :=
  Calls Try.prog 47 ⟨[.pointer w_0]⟩ w fun e1 w2 =>
  e1 = .returned (.tuple ⟨[]⟩) ∧
  lt (IntKind.i64.wrap b_1) fun x3 =>
  Calls Try.prog 42 ⟨[.pointer w_0, .int .i64 x3, .int .i64 8]⟩ w2 fun e4 w5 =>
  e4 = .returned (.tuple ⟨[]⟩) ∧
  Q (.tuple ⟨[]⟩) w5

theorem troveref2_Writer_Byte.ok (w_0 : (Option Addr)) (b_1 : Int) (Q : Value → World → Prop) (w : World) (h : troveref2_Writer_Byte w_0 b_1 Q w) : Calls Try.prog 45 ⟨[.pointer w_0, .int .u8 b_1]⟩ w (Ret Q) := by
  refine calls_of_wpc [] Try.func45 rfl rfl rfl rfl ?_
  exact pt_sound hmix _ (Eq.mp (by kernel_rfl) h)

/-! (*trove/troveref2.Writer).Align -/
def troveref2_Writer_Align.b1 (w_0 : (Option Addr)) (Q : Value → World → Prop) (nx1 : (Option Addr) → World → Prop) (w : World) : Prop :=
  nz w_0 fun a1 =>
  ldL w (Addr.add a1 0) fun x2 =>
  (8 : Int) ≠ 0 ∧
  lt (Int.tmod ((x2.len : Nat) : Int) 8) fun x3 =>
  br ((x3 : Int) != 0) (
  nz w_0 fun a4 =>
  ldL w (Addr.add a4 0) fun x5 =>
  lt (⟨World.heapSize w, 0, none⟩ : Addr) fun a6 =>
  lt (World.alloc w (.cells ⟨[.bool false]⟩ 4)) fun w7 =>
  rdO w7 (some a6) (1 * 1) fun c8 =>
  apK Try.prog 4 w7 x5.a x5.len x5.cap 1 c8 fun s9 w10 =>
  nz w_0 fun a11 =>
  st w10 (Addr.add a11 0) (.slice s9.a s9.len s9.cap) fun w12 =>
  nx1 w_0 w12) (
  Q (.tuple ⟨[]⟩) w)

def troveref2_Writer_Align.l1 (w_0 : (Option Addr)) (Q : Value → World → Prop) (w : World) : Prop :=
  ∃ (I : World → Prop) (μ : World → Nat), I  w ∧ ∀ w : World, I  w → troveref2_Writer_Align.b1 w_0 Q (fun w_0' w' => (w_0' = w_0) ∧ I  w' ∧ μ  w' < μ  w) w

def troveref2_Writer_Align (w_0 : (Option Addr)) (Q : Value → World → Prop) (w : World) : Prop :=
  troveref2_Writer_Align.l1 w_0 Q w

theorem troveref2_Writer_Align.ok (w_0 : (Option Addr)) (Q : Value → World → Prop) (w : World) (h : troveref2_Writer_Align w_0 Q w) : Calls Try.prog 47 ⟨[.pointer w_0]⟩ w (Ret Q) := by
  refine calls_of_wpc [] Try.func47 rfl rfl rfl rfl ?_
  refine wpc_block ?_
  obtain ⟨I, μ, hI, hr⟩ := h
  refine wpc_loopS (α := Unit) (fun s ρ => ρ 0 = .pointer w_0) (fun s w => I  w) (fun s w => μ  w) () rfl hI ?_
  rintro ⟨⟩ ρ w e0 hI
  have h := hr  w hI
  clear hr
  obtain ⟨nx1, hnx⟩ : ∃ nx : (Option Addr) → World → Prop, nx = (fun w_0' w' => (w_0' = w_0) ∧ I  w' ∧ μ  w' < μ  w) := ⟨_, rfl⟩
  rw [← hnx] at h
  refine wpc_norm (M := fun ρ w => asP (ρ 0) fun w_0 => nx1 w_0 w) ?_ (fun ρ w h => ?_)
  · skip
    refine reroot e0 ?_
    exact pt_sound hmix _ (Eq.mp (by kernel_rfl) h)
  · skip
    obtain ⟨w_0', e0', h⟩ := asP_el h
    rw [hnx] at h
    obtain ⟨hu, hI2, hμ⟩ := h
    obtain rfl := hu
    exact ⟨(), e0', hI2, hμ⟩

/-! (*trove/troveref2.Writer).Done -/
def troveref2_Writer_Done.j2 (out_3 : Sl) (Q : Value → World → Prop) (w : World) : Prop :=
  Q (.slice out_3.a out_3.len out_3.cap) w

def troveref2_Writer_Done.b1 (w_0 : (Option Addr)) (out_3 : Sl) (i_4 : Int) (Q : Value → World → Prop) (nx1 : (Option Addr) → Sl → Int → World → Prop) (w : World) : Prop :=
  nz w_0 fun a1 =>
  ldL w (Addr.add a1 0) fun x2 =>
  br (decide ((i_4 : Int) < ((x2.len : Nat) : Int))) (
  nz w_0 fun a3 =>
  ldL w (Addr.add a3 0) fun x4 =>
  ixS x4.a x4.len i_4 1 fun a5 =>
  ldB w a5 fun x6 =>
  br x6 (
  (8 : Int) ≠ 0 ∧
  lt (IntKind.i64.wrap (Int.tdiv i_4 8)) fun x7 =>
  (8 : Int) ≠ 0 ∧
  lt (IntKind.i64.wrap (Int.tdiv i_4 8)) fun x8 =>
  ixS out_3.a out_3.len x8 1 fun a9 =>
  ldI .u8 w a9 fun x10 =>
  (8 : Int) ≠ 0 ∧
  lt (Int.tmod i_4 8) fun x11 =>
  lt (IntKind.u64.wrap x11) fun x12 =>
  (0 : Int) ≤ x12 ∧
  lt (shlV .u8 1 x12) fun x13 =>
  lt (orV .u8 x10 x13) fun x14 =>
  ixS out_3.a out_3.len x7 1 fun a15 =>
  st w a15 (.int .u8 x14) fun w16 =>
  lt (IntKind.i64.wrap (i_4 + 1)) fun x17 =>
  nx1 w_0 out_3 x17 w16) (
  lt (IntKind.i64.wrap (i_4 + 1)) fun x18 =>
  nx1 w_0 out_3 x18 w)) (
  troveref2_Writer_Done.j2 out_3 Q w)

def troveref2_Writer_Done.l1 (w_0 : (Option Addr)) (out_3 : Sl) (i_4 : Int) (Q : Value → World → Prop) (w : World) : Prop :=
  ∃ (I : Int → World → Prop) (μ : Int → World → Nat), I i_4 w ∧ ∀ i_4 : Int, ∀ w : World, I i_4 w → troveref2_Writer_Done.b1 w_0 out_3 i_4 Q (fun w_0' out_3' i_4' w' => (w_0' = w_0 ∧ out_3' = out_3) ∧ I i_4' w' ∧ μ i_4' w' < μ i_4 w) w

def troveref2_Writer_Done.j3 (w_0 : (Option Addr)) (out_3 : Sl) (i_4 : Int) (Q : Value → World → Prop) (w : World) : Prop :=
  troveref2_Writer_Done.l1 w_0 out_3 i_4 Q w

def troveref2_Writer_Done.j1 (w_0 : (Option Addr)) (out_3 : Sl) (Q : Value → World → Prop) (w : World) : Prop :=
  troveref2_Writer_Done.j3 w_0 out_3 0 Q w

def troveref2_Writer_Done (w_0 : (Option Addr)) (Q : Value → World → Prop) (w : World) : Prop :=
  nz w_0 fun a19 =>
  ldL w (Addr.add a19 0) fun x20 =>
  lt (IntKind.i64.wrap (((x20.len : Nat) : Int) + 7)) fun x21 =>
  (8 : Int) ≠ 0 ∧
  lt (IntKind.i64.wrap (Int.tdiv x21 8)) fun x22 =>
  mkK Try.prog 5 w x22 x22 fun s23 w24 =>
  troveref2_Writer_Done.j1 w_0 s23 Q w24

theorem troveref2_Writer_Done.ok (w_0 : (Option Addr)) (Q : Value → World → Prop) (w : World) (h : troveref2_Writer_Done w_0 Q w) : Calls Try.prog 49 ⟨[.pointer w_0]⟩ w (Ret Q) := by
  refine calls_of_wpc [.tmp 2] Try.func49 rfl rfl rfl rfl ?_
  refine wpc_pre2 hmix (fun ρ w => asP (ρ 0) fun w_0 => asL (ρ 3) fun out_3 => troveref2_Writer_Done.j1 w_0 out_3 Q w) (Eq.mp (by kernel_rfl) h) ?_
  intro ρ w h
  obtain ⟨w_0, e0, h⟩ := asP_el h
  obtain ⟨out_3, e3, h⟩ := asL_el h
  refine reroot e0 (reroot (upd_other e3 rfl) ?_)
  refine wpc_seq (fun ρ w => asL (ρ 3) fun out_3 => troveref2_Writer_Done.j2 out_3 Q w) ?_ ?_
  · skip
    refine wpc_seq (fun ρ w => asP (ρ 0) fun w_0 => asL (ρ 3) fun out_3 => asI .i64 (ρ 4) fun i_4 => troveref2_Writer_Done.j3 w_0 out_3 i_4 Q w) ?_ ?_
    · skip
      exact pt_sound hmix _ (Eq.mp (by kernel_rfl) h)
    · intro ρ w h
      obtain ⟨w_0, e0, h⟩ := asP_el h
      obtain ⟨out_3, e3, h⟩ := asL_el h
      obtain ⟨i_4, e4, h⟩ := asI_el h
      refine reroot e0 (reroot (upd_other e3 rfl) (reroot (upd_other (upd_other e4 rfl) rfl) ?_))
      refine wpc_block ?_
      obtain ⟨I, μ, hI, hr⟩ := h
      refine wpc_loopS (α := Int) (fun s ρ => ρ 4 = .int .i64 s ∧ ρ 0 = .pointer w_0 ∧ ρ 3 = .slice out_3.a out_3.len out_3.cap) (fun s w => I s w) (fun s w => μ s w) i_4 ⟨rfl, rfl, rfl⟩ hI ?_
      rintro i_4 ρ w ⟨e4, e0, e3⟩ hI
      have h := hr i_4 w hI
      clear hr
      obtain ⟨nx1, hnx⟩ : ∃ nx : (Option Addr) → Sl → Int → World → Prop, nx = (fun w_0' out_3' i_4' w' => (w_0' = w_0 ∧ out_3' = out_3) ∧ I i_4' w' ∧ μ i_4' w' < μ i_4 w) := ⟨_, rfl⟩
      rw [← hnx] at h
      refine wpc_norm (M := fun ρ w => asP (ρ 0) fun w_0 => asL (ρ 3) fun out_3 => asI .i64 (ρ 4) fun i_4 => nx1 w_0 out_3 i_4 w) ?_ (fun ρ w h => ?_)
      · skip
        refine reroot e0 (reroot (upd_other e3 rfl) (reroot (upd_other (upd_other e4 rfl) rfl) ?_))
        exact pt_sound hmix _ (Eq.mp (by kernel_rfl) h)
      · skip
        obtain ⟨w_0', e0', h⟩ := asP_el h
        obtain ⟨out_3', e3', h⟩ := asL_el h
        obtain ⟨i_4', e4', h⟩ := asI_el h
        rw [hnx] at h
        obtain ⟨hu, hI2, hμ⟩ := h
        obtain ⟨rfl, rfl⟩ := hu
        exact ⟨i_4', ⟨e4', e0', e3'⟩, hI2, hμ⟩
  · intro ρ w h
    obtain ⟨out_3, e3, h⟩ := asL_el h
    refine reroot e3 ?_
    exact pt_sound hmix _ (Eq.mp (by kernel_rfl) h)

/-! (*trove/troveref2.Reader).Align -/
def troveref2_Reader_Align (r_0 : (Option Addr)) (Q : Value → World → Prop) (w : World) : Prop :=
  nz r_0 fun a1 =>
  ldI .i64 w (Addr.add a1 1) fun x2 =>
  lt (IntKind.i64.wrap (x2 + 7)) fun x3 =>
  (8 : Int) ≠ 0 ∧
  lt (IntKind.i64.wrap (Int.tdiv x3 8)) fun x4 =>
  lt (IntKind.i64.wrap (x4 * 8)) fun x5 =>
  nz r_0 fun a6 =>
  st w (Addr.add a6 1) (.int .i64 x5) fun w7 =>
  Q (.tuple ⟨[]⟩) w7

theorem troveref2_Reader_Align.ok (r_0 : (Option Addr)) (Q : Value → World → Prop) (w : World) (h : troveref2_Reader_Align r_0 Q w) : Calls Try.prog 51 ⟨[.pointer r_0]⟩ w (Ret Q) := by
  refine calls_of_wpc [] Try.func51 rfl rfl rfl rfl ?_
  exact pt_sound hmix _ (Eq.mp (by kernel_rfl) h)

/-! (*trove/troveref2.Reader).Get -/
def troveref2_Reader_Get.j3 (r_0 : (Option Addr)) (n_1 : Int) (v_6 : Int) (Q : Value → World → Prop) (w : World) : Prop :=
  nz r_0 fun a1 =>
  ldI .i64 w (Addr.add a1 1) fun x2 =>
  lt (IntKind.i64.wrap (x2 + n_1)) fun x3 =>
  nz r_0 fun a4 =>
  st w (Addr.add a4 1) (.int .i64 x3) fun w5 =>
  Q (.tuple ⟨[.int .i64 v_6, .bool true]⟩) w5

def troveref2_Reader_Get.b1 (r_0 : (Option Addr)) (n_1 : Int) (v_6 : Int) (i_7 : Int) (Q : Value → World → Prop) (nx1 : (Option Addr) → Int → Int → Int → World → Prop) (w : World) : Prop :=
  br (decide ((i_7 : Int) < n_1)) (
  nz r_0 fun a6 =>
  ldI .i64 w (Addr.add a6 1) fun x7 =>
  lt (IntKind.i64.wrap (x7 + i_7)) fun x8 =>
  nz r_0 fun a9 =>
  ldL w (Addr.add a9 0) fun x10 =>
  (8 : Int) ≠ 0 ∧
  lt (IntKind.i64.wrap (Int.tdiv x8 8)) fun x11 =>
  ixS x10.a x10.len x11 1 fun a12 =>
  ldI .u8 w a12 fun x13 =>
  (8 : Int) ≠ 0 ∧
  lt (Int.tmod x8 8) fun x14 =>
  lt (IntKind.u64.wrap x14) fun x15 =>
  (0 : Int) ≤ x15 ∧
  lt (shrV .u8 x13 x15) fun x16 =>
  lt (andV .u8 x16 1) fun x17 =>
  lt (IntKind.i64.wrap x17) fun x18 =>
  lt (IntKind.u64.wrap i_7) fun x19 =>
  (0 : Int) ≤ x19 ∧
  lt (shlV .i64 x18 x19) fun x20 =>
  lt (orV .i64 v_6 x20) fun x21 =>
  lt (IntKind.i64.wrap (i_7 + 1)) fun x22 =>
  nx1 r_0 n_1 x21 x22 w) (
  troveref2_Reader_Get.j3 r_0 n_1 v_6 Q w)

def troveref2_Reader_Get.l1 (r_0 : (Option Addr)) (n_1 : Int) (v_6 : Int) (i_7 : Int) (Q : Value → World → Prop) (w : World) : Prop :=
  ∃ (I : Int → Int → World → Prop) (μ : Int → Int → World → Nat), I v_6 i_7 w ∧ ∀ v_6 : Int, ∀ i_7 : Int, ∀ w : World, I v_6 i_7 w → troveref2_Reader_Get.b1 r_0 n_1 v_6 i_7 Q (fun r_0' n_1' v_6' i_7' w' => (r_0' = r_0 ∧ n_1' = n_1) ∧ I v_6' i_7' w' ∧ μ v_6' i_7' w' < μ v_6 i_7 w) w

def troveref2_Reader_Get.j4 (r_0 : (Option Addr)) (n_1 : Int) (v_6 : Int) (i_7 : Int) (Q : Value → World → Prop) (w : World) : Prop :=
  troveref2_Reader_Get.l1 r_0 n_1 v_6 i_7 Q w

def troveref2_Reader_Get.j2 (r_0 : (Option Addr)) (n_1 : Int) (v_6 : Int) (Q : Value → World → Prop) (w : World) : Prop :=
  troveref2_Reader_Get.j4 r_0 n_1 v_6 0 Q w

def troveref2_Reader_Get.j1 (r_0 : (Option Addr)) (n_1 : Int) (Q : Value → World → Prop) (w : World) : Prop :=
  br (decide ((n_1 : Int) < 0)) (
  Q (.tuple ⟨[.int .i64 0, .bool false]⟩) w) (
  br (decide ((n_1 : Int) > 24)) (
  Q (.tuple ⟨[.int .i64 0, .bool false]⟩) w) (
  Calls Try.prog 53 ⟨[.pointer r_0]⟩ w fun e23 w24 =>
  ∃ r25 : Int, e23 = .returned (.int .i64 r25) ∧
  br (decide ((n_1 : Int) > r25)) (
  Q (.tuple ⟨[.int .i64 0, .bool false]⟩) w24) (
  troveref2_Reader_Get.j2 r_0 n_1 0 Q w24)))

def troveref2_Reader_Get (r_0 : (Option Addr)) (n_1 : Int) (Q : Value → World → Prop) (w : World) : Prop :=
  troveref2_Reader_Get.j1 r_0 n_1 Q w

theorem troveref2_Reader_Get.ok (r_0 : (Option Addr)) (n_1 : Int) (Q : Value → World → Prop) (w : World) (h : troveref2_Reader_Get r_0 n_1 Q w) : Calls Try.prog 52 ⟨[.pointer r_0, .int .i64 n_1]⟩ w (Ret Q) := by
  refine calls_of_wpc [.tmp 4, .tmp 5] Try.func52 rfl rfl rfl rfl ?_
  refine wpc_seq (fun ρ w => asP (ρ 0) fun r_0 => asI .i64 (ρ 1) fun n_1 => troveref2_Reader_Get.j1 r_0 n_1 Q w) ?_ ?_
  · skip
    exact pt_sound hmix _ (Eq.mp (by kernel_rfl) h)
  · intro ρ w h
    obtain ⟨r_0, e0, h⟩ := asP_el h
    obtain ⟨n_1, e1, h⟩ := asI_el h
    refine reroot e0 (reroot (upd_other e1 rfl) ?_)
    refine wpc_pre2 hmix (fun ρ w => asP (ρ 0) fun r_0 => asI .i64 (ρ 1) fun n_1 => asI .i64 (ρ 6) fun v_6 => troveref2_Reader_Get.j2 r_0 n_1 v_6 Q w) (Eq.mp (by kernel_rfl) h) ?_
    intro ρ w h
    obtain ⟨r_0, e0, h⟩ := asP_el h
    obtain ⟨n_1, e1, h⟩ := asI_el h
    obtain ⟨v_6, e6, h⟩ := asI_el h
    refine reroot e0 (reroot (upd_other e1 rfl) (reroot (upd_other (upd_other e6 rfl) rfl) ?_))
    refine wpc_seq (fun ρ w => asP (ρ 0) fun r_0 => asI .i64 (ρ 1) fun n_1 => asI .i64 (ρ 6) fun v_6 => troveref2_Reader_Get.j3 r_0 n_1 v_6 Q w) ?_ ?_
    · skip
      refine wpc_seq (fun ρ w => asP (ρ 0) fun r_0 => asI .i64 (ρ 1) fun n_1 => asI .i64 (ρ 6) fun v_6 => asI .i64 (ρ 7) fun i_7 => troveref2_Reader_Get.j4 r_0 n_1 v_6 i_7 Q w) ?_ ?_
      · skip
        exact pt_sound hmix _ (Eq.mp (by kernel_rfl) h)
      · intro ρ w h
        obtain ⟨r_0, e0, h⟩ := asP_el h
        obtain ⟨n_1, e1, h⟩ := asI_el h
        obtain ⟨v_6, e6, h⟩ := asI_el h
        obtain ⟨i_7, e7, h⟩ := asI_el h
        refine reroot e0 (reroot (upd_other e1 rfl) (reroot (upd_other (upd_other e6 rfl) rfl) (reroot (upd_other (upd_other (upd_other e7 rfl) rfl) rfl) ?_)))
        refine wpc_block ?_
        obtain ⟨I, μ, hI, hr⟩ := h
        refine wpc_loopS (α := Int × Int) (fun s ρ => ρ 6 = .int .i64 s.1 ∧ ρ 7 = .int .i64 s.2 ∧ ρ 0 = .pointer r_0 ∧ ρ 1 = .int .i64 n_1) (fun s w => I s.1 s.2 w) (fun s w => μ s.1 s.2 w) (v_6, i_7) ⟨rfl, rfl, rfl, rfl⟩ hI ?_
        rintro ⟨v_6, i_7⟩ ρ w ⟨e6, e7, e0, e1⟩ hI
        have h := hr v_6 i_7 w hI
        clear hr
        obtain ⟨nx1, hnx⟩ : ∃ nx : (Option Addr) → Int → Int → Int → World → Prop, nx = (fun r_0' n_1' v_6' i_7' w' => (r_0' = r_0 ∧ n_1' = n_1) ∧ I v_6' i_7' w' ∧ μ v_6' i_7' w' < μ v_6 i_7 w) := ⟨_, rfl⟩
        rw [← hnx] at h
        refine wpc_norm (M := fun ρ w => asP (ρ 0) fun r_0 => asI .i64 (ρ 1) fun n_1 => asI .i64 (ρ 6) fun v_6 => asI .i64 (ρ 7) fun i_7 => nx1 r_0 n_1 v_6 i_7 w) ?_ (fun ρ w h => ?_)
        · skip
          refine reroot e0 (reroot (upd_other e1 rfl) (reroot (upd_other (upd_other e6 rfl) rfl) (reroot (upd_other (upd_other (upd_other e7 rfl) rfl) rfl) ?_)))
          exact pt_sound hmix _ (Eq.mp (by kernel_rfl) h)
        · skip
          obtain ⟨r_0', e0', h⟩ := asP_el h
          obtain ⟨n_1', e1', h⟩ := asI_el h
          obtain ⟨v_6', e6', h⟩ := asI_el h
          obtain ⟨i_7', e7', h⟩ := asI_el h
          rw [hnx] at h
          obtain ⟨hu, hI2, hμ⟩ := h
          obtain ⟨rfl, rfl⟩ := hu
          exact ⟨(v_6', i_7'), ⟨e6', e7', e0', e1'⟩, hI2, hμ⟩
    · intro ρ w h
      obtain ⟨r_0, e0, h⟩ := asP_el h
      obtain ⟨n_1, e1, h⟩ := asI_el h
      obtain ⟨v_6, e6, h⟩ := asI_el h
      refine reroot e0 (reroot (upd_other e1 rfl) (reroot (upd_other (upd_other e6 rfl) rfl) ?_))
      exact pt_sound hmix _ (Eq.mp (by kernel_rfl) h)

/-! (*trove/troveref2.Reader).Left -/
def troveref2_Reader_Left (r_0 : (Option Addr)) (Q : Value → World → Prop) (w : World) : Prop :=
  lt (World.drew w) fun w1 =>
  nz r_0 fun a2 =>
  ldL w1 (Addr.add a2 0) fun x3 =>
  lt (IntKind.i64.wrap (8 * ((x3.len : Nat) : Int))) fun x4 =>
  nz r_0 fun a5 =>
  ldI .i64 w1 (Addr.add a5 1) fun x6 =>
  lt (IntKind.i64.wrap (x4 - x6)) fun x7 =>
  Q (.int .i64 x7) w1

theorem troveref2_Reader_Left.ok (r_0 : (Option Addr)) (Q : Value → World → Prop) (w : World) (h : troveref2_Reader_Left r_0 Q w) : Calls Try.prog 53 ⟨[.pointer r_0]⟩ w (Ret Q) := by
  refine calls_of_wpc [.tmp 2] Try.func53 rfl rfl rfl rfl ?_
  exact pt_sound hmix _ (Eq.mp (by kernel_rfl) h)

/-! (*trove/troveref2.Reader).Past -/
def troveref2_Reader_Past (r_0 : (Option Addr)) (Q : Value → World → Prop) (w : World) : Prop :=
  nz r_0 fun a1 =>
  ldI .i64 w (Addr.add a1 1) fun x2 =>
  lt (IntKind.i64.wrap (x2 + 7)) fun x3 =>
  (8 : Int) ≠ 0 ∧
  lt (IntKind.i64.wrap (Int.tdiv x3 8)) fun x4 =>
  Q (.int .i64 x4) w

theorem troveref2_Reader_Past.ok (r_0 : (Option Addr)) (Q : Value → World → Prop) (w : World) (h : troveref2_Reader_Past r_0 Q w) : Calls Try.prog 55 ⟨[.pointer r_0]⟩ w (Ret Q) := by
  refine calls_of_wpc [.tmp 2] Try.func55 rfl rfl rfl rfl ?_
  exact pt_sound hmix _ (Eq.mp (by kernel_rfl) h)

end Go.Proofs.Ytkajimndclhgaaa
