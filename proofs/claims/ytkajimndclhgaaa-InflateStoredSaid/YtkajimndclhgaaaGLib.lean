/- PRINTED BY gen.py (own work): what calls come to, and the proofs of it. -/
import Derived.Test.YtkajimndclhgaaaVcJ
import Derived.Test.YtkajimndclhgaaaProg
namespace Go.Proofs.Ytkajimndclhgaaa
open Go Go.Proofs
set_option linter.unusedVariables false
set_option maxRecDepth 100000

/-! slices.Clone[[]byte,byte] -/
def slices_Clone_byte (s_0 : Sl) (Q : Value → World → Prop) (w : World) : Prop :=
  br (Option.isNone s_0.a) (
  Q (.slice none 0 0) w) (
  lt (⟨World.heapSize w, 0, none⟩ : Addr) fun a1 =>
  lt (World.alloc w (.cells ⟨[]⟩ 5)) fun w2 =>
  rdO w2 s_0.a (s_0.len * 1) fun c3 =>
  apK Try.prog 5 w2 (some a1) 0 0 s_0.len c3 fun s4 w5 =>
  Q (.slice s4.a s4.len s4.cap) w5)

theorem slices_Clone_byte.ok (s_0 : Sl) (Q : Value → World → Prop) (w : World) (h : slices_Clone_byte s_0 Q w) : Calls Try.prog 124 ⟨[.slice s_0.a s_0.len s_0.cap]⟩ w (Ret Q) := by
  refine calls_of_wpc [.tmp 2] Try.func124 rfl rfl rfl rfl ?_
  exact pt_sound hmix _ (Eq.mp (by kernel_rfl) h)

/-! slices.Clip[[]byte,byte] -/
def slices_Clip_byte (s_0 : Sl) (Q : Value → World → Prop) (w : World) : Prop :=
  bd ((s_0.len : Nat) : Int) s_0.cap fun n1 =>
  bd ((s_0.len : Nat) : Int) n1 fun n2 =>
  lt (⟨cutA s_0.a n1 0 1, n2 - 0, n1 - 0⟩ : Sl) fun s3 =>
  Q (.slice s3.a s3.len s3.cap) w

theorem slices_Clip_byte.ok (s_0 : Sl) (Q : Value → World → Prop) (w : World) (h : slices_Clip_byte s_0 Q w) : Calls Try.prog 125 ⟨[.slice s_0.a s_0.len s_0.cap]⟩ w (Ret Q) := by
  refine calls_of_wpc [.tmp 2] Try.func125 rfl rfl rfl rfl ?_
  exact pt_sound hmix _ (Eq.mp (by kernel_rfl) h)

/-! slices.Clip[[]int,int] -/
def slices_Clip_int (s_0 : Sl) (Q : Value → World → Prop) (w : World) : Prop :=
  bd ((s_0.len : Nat) : Int) s_0.cap fun n1 =>
  bd ((s_0.len : Nat) : Int) n1 fun n2 =>
  lt (⟨cutA s_0.a n1 0 1, n2 - 0, n1 - 0⟩ : Sl) fun s3 =>
  Q (.slice s3.a s3.len s3.cap) w

theorem slices_Clip_int.ok (s_0 : Sl) (Q : Value → World → Prop) (w : World) (h : slices_Clip_int s_0 Q w) : Calls Try.prog 150 ⟨[.slice s_0.a s_0.len s_0.cap]⟩ w (Ret Q) := by
  refine calls_of_wpc [.tmp 2] Try.func150 rfl rfl rfl rfl ?_
  exact pt_sound hmix _ (Eq.mp (by kernel_rfl) h)

/-! slices.Reverse[[]byte,byte] -/
def slices_Reverse_byte.b1 (s_0 : Sl) (i_2 : Int) (j_3 : Int) (Q : Value → World → Prop) (nx1 : Sl → Int → Int → World → Prop) (w : World) : Prop :=
  br (decide ((i_2 : Int) < j_3)) (
  lt (World.drew w) fun w1 =>
  ixS s_0.a s_0.len j_3 1 fun a2 =>
  ldI .u8 w1 a2 fun x3 =>
  ixS s_0.a s_0.len i_2 1 fun a4 =>
  ldI .u8 w1 a4 fun x5 =>
  ixS s_0.a s_0.len i_2 1 fun a6 =>
  st w1 a6 (.int .u8 x3) fun w7 =>
  ixS s_0.a s_0.len j_3 1 fun a8 =>
  st w7 a8 (.int .u8 x5) fun w9 =>
  lt (IntKind.i64.wrap (i_2 + 1)) fun x10 =>
  lt (IntKind.i64.wrap (j_3 - 1)) fun x11 =>
  nx1 s_0 x10 x11 w9) (
  Q (.tuple ⟨[]⟩) w)

def slices_Reverse_byte.l1 (s_0 : Sl) (i_2 : Int) (j_3 : Int) (Q : Value → World → Prop) (w : World) : Prop :=
  ∃ (I : Int → Int → World → Prop) (μ : Int → Int → World → Nat), I i_2 j_3 w ∧ ∀ i_2 : Int, ∀ j_3 : Int, ∀ w : World, I i_2 j_3 w → slices_Reverse_byte.b1 s_0 i_2 j_3 Q (fun s_0' i_2' j_3' w' => (s_0' = s_0) ∧ I i_2' j_3' w' ∧ μ i_2' j_3' w' < μ i_2 j_3 w) w

def slices_Reverse_byte.j1 (s_0 : Sl) (i_2 : Int) (j_3 : Int) (Q : Value → World → Prop) (w : World) : Prop :=
  slices_Reverse_byte.l1 s_0 i_2 j_3 Q w

def slices_Reverse_byte (s_0 : Sl) (Q : Value → World → Prop) (w : World) : Prop :=
  lt (IntKind.i64.wrap (((s_0.len : Nat) : Int) - 1)) fun x12 =>
  slices_Reverse_byte.j1 s_0 0 x12 Q w

theorem slices_Reverse_byte.ok (s_0 : Sl) (Q : Value → World → Prop) (w : World) (h : slices_Reverse_byte s_0 Q w) : Calls Try.prog 135 ⟨[.slice s_0.a s_0.len s_0.cap]⟩ w (Ret Q) := by
  refine calls_of_wpc [] Try.func135 rfl rfl rfl rfl ?_
  refine wpc_seq (fun ρ w => asL (ρ 0) fun s_0 => asI .i64 (ρ 2) fun i_2 => asI .i64 (ρ 3) fun j_3 => slices_Reverse_byte.j1 s_0 i_2 j_3 Q w) ?_ ?_
  · skip
    exact pt_sound hmix _ (Eq.mp (by kernel_rfl) h)
  · intro ρ w h
    obtain ⟨s_0, e0, h⟩ := asL_el h
    obtain ⟨i_2, e2, h⟩ := asI_el h
    obtain ⟨j_3, e3, h⟩ := asI_el h
    refine reroot e0 (reroot (upd_other e2 rfl) (reroot (upd_other (upd_other e3 rfl) rfl) ?_))
    refine wpc_block ?_
    obtain ⟨I, μ, hI, hr⟩ := h
    refine wpc_loopS (α := Int × Int) (fun s ρ => ρ 2 = .int .i64 s.1 ∧ ρ 3 = .int .i64 s.2 ∧ ρ 0 = .slice s_0.a s_0.len s_0.cap) (fun s w => I s.1 s.2 w) (fun s w => μ s.1 s.2 w) (i_2, j_3) ⟨rfl, rfl, rfl⟩ hI ?_
    rintro ⟨i_2, j_3⟩ ρ w ⟨e2, e3, e0⟩ hI
    have h := hr i_2 j_3 w hI
    clear hr
    obtain ⟨nx1, hnx⟩ : ∃ nx : Sl → Int → Int → World → Prop, nx = (fun s_0' i_2' j_3' w' => (s_0' = s_0) ∧ I i_2' j_3' w' ∧ μ i_2' j_3' w' < μ i_2 j_3 w) := ⟨_, rfl⟩
    rw [← hnx] at h
    refine wpc_norm (M := fun ρ w => asL (ρ 0) fun s_0 => asI .i64 (ρ 2) fun i_2 => asI .i64 (ρ 3) fun j_3 => nx1 s_0 i_2 j_3 w) ?_ (fun ρ w h => ?_)
    · skip
      refine reroot e0 (reroot (upd_other e2 rfl) (reroot (upd_other (upd_other e3 rfl) rfl) ?_))
      exact pt_sound hmix _ (Eq.mp (by kernel_rfl) h)
    · skip
      obtain ⟨s_0', e0', h⟩ := asL_el h
      obtain ⟨i_2', e2', h⟩ := asI_el h
      obtain ⟨j_3', e3', h⟩ := asI_el h
      rw [hnx] at h
      obtain ⟨hu, hI2, hμ⟩ := h
      obtain rfl := hu
      exact ⟨(i_2', j_3'), ⟨e2', e3', e0'⟩, hI2, hμ⟩

end Go.Proofs.Ytkajimndclhgaaa
