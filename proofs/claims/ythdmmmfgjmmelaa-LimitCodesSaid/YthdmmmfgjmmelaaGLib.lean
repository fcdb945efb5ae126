/- PRINTED BY gen.py (own work): what calls come to, and the proofs of it. -/
import Derived.Test.YthdmmmfgjmmelaaVcJ
import Derived.Test.YthdmmmfgjmmelaaProg
namespace Go.Proofs.Ythdmmmfgjmmelaa
open Go Go.Proofs
set_option linter.unusedVariables false
set_option maxRecDepth 100000

/-! slices.Clone[[]byte,byte] -/
def slices_Clone_byte (s_0 : Sl) (Q : Value → World → Prop) (w : World) : Prop :=
  br (Option.isNone s_0.a) (
  Q (.slice none 0 0) w) (
  lt (⟨World.heapSize w, 0, none⟩ : Addr) fun a1 =>
  lt (World.alloc w (.cells ⟨[]⟩ 5)) fun w2 =>
  rdO w2 s_0.a (s_0.len * 1) fun c3 =>
  apK Try.prog 5 w2 (some a1) 0 0 s_0.len c3 fun s4 w5 =>
  Q (.slice s4.a s4.len s4.cap) w5)

theorem slices_Clone_byte.ok (s_0 : Sl) (Q : Value → World → Prop) (w : World) (h : slices_Clone_byte s_0 Q w) : Calls Try.prog 50 ⟨[.slice s_0.a s_0.len s_0.cap]⟩ w (Ret Q) := by
  refine calls_of_wpc [.tmp 2] Try.func50 rfl rfl rfl rfl ?_
  exact pt_sound hmix _ (Eq.mp (by kernel_rfl) h)

/-! slices.Clip[[]byte,byte] -/
def slices_Clip_byte (s_0 : Sl) (Q : Value → World → Prop) (w : World) : Prop :=
  bd ((s_0.len : Nat) : Int) s_0.cap fun n1 =>
  bd ((s_0.len : Nat) : Int) n1 fun n2 =>
  lt (⟨cutA s_0.a n1 0 1, n2 - 0, n1 - 0⟩ : Sl) fun s3 =>
  Q (.slice s3.a s3.len s3.cap) w

theorem slices_Clip_byte.ok (s_0 : Sl) (Q : Value → World → Prop) (w : World) (h : slices_Clip_byte s_0 Q w) : Calls Try.prog 51 ⟨[.slice s_0.a s_0.len s_0.cap]⟩ w (Ret Q) := by
  refine calls_of_wpc [.tmp 2] Try.func51 rfl rfl rfl rfl ?_
  exact pt_sound hmix _ (Eq.mp (by kernel_rfl) h)

/-! slices.Clip[[]int,int] -/
def slices_Clip_int (s_0 : Sl) (Q : Value → World → Prop) (w : World) : Prop :=
  bd ((s_0.len : Nat) : Int) s_0.cap fun n1 =>
  bd ((s_0.len : Nat) : Int) n1 fun n2 =>
  lt (⟨cutA s_0.a n1 0 1, n2 - 0, n1 - 0⟩ : Sl) fun s3 =>
  Q (.slice s3.a s3.len s3.cap) w

theorem slices_Clip_int.ok (s_0 : Sl) (Q : Value → World → Prop) (w : World) (h : slices_Clip_int s_0 Q w) : Calls Try.prog 163 ⟨[.slice s_0.a s_0.len s_0.cap]⟩ w (Ret Q) := by
  refine calls_of_wpc [.tmp 2] Try.func163 rfl rfl rfl rfl ?_
  exact pt_sound hmix _ (Eq.mp (by kernel_rfl) h)

end Go.Proofs.Ythdmmmfgjmmelaa
