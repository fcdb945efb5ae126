/- PRINTED BY gen.py (own work): what calls come to, and the proofs of it. -/
import Derived.Test.YtkajimndclhgaaaVcJ
import Derived.Test.YtkajimndclhgaaaProg
namespace Go.Proofs.Ytkajimndclhgaaa
open Go Go.Proofs
set_option linter.unusedVariables false
set_option maxRecDepth 100000

/-! trove/bin.put -/
def bin_put.j2 (out_7 : Sl) (Q : Value → World → Prop) (w : World) : Prop :=
  Calls Try.prog 125 ⟨[.slice out_7.a out_7.len out_7.cap]⟩ w fun e1 w2 =>
  ∃ r3 : Sl, e1 = .returned (.slice r3.a r3.len r3.cap) ∧
  Q (.slice r3.a r3.len r3.cap) w2

def bin_put.b1 (v_1 : Int) (bits_2 : Int) (out_7 : Sl) (Q : Value → World → Prop) (nx1 : Int → Int → Sl → World → Prop) (w : World) : Prop :=
  br (decide ((bits_2 : Int) > 0)) (
  lt (IntKind.i64.wrap (bits_2 - 8)) fun x4 =>
  (0 : Int) ≤ x4 ∧
  lt (shrV .i64 v_1 x4) fun x5 =>
  lt (IntKind.u8.wrap x5) fun x6 =>
  lt (⟨World.heapSize w, 0, none⟩ : Addr) fun a7 =>
  lt (World.alloc w (.cells ⟨[.int .u8 x6]⟩ 5)) fun w8 =>
  rdO w8 (some a7) (1 * 1) fun c9 =>
  apK Try.prog 5 w8 out_7.a out_7.len out_7.cap 1 c9 fun s10 w11 =>
  nx1 v_1 x4 s10 w11) (
  bin_put.j2 out_7 Q w)

def bin_put.l1 (v_1 : Int) (bits_2 : Int) (out_7 : Sl) (Q : Value → World → Prop) (w : World) : Prop :=
  ∃ (I : Int → Sl → World → Prop) (μ : Int → Sl → World → Nat), I bits_2 out_7 w ∧ ∀ bits_2 : Int, ∀ out_7 : Sl, ∀ w : World, I bits_2 out_7 w → bin_put.b1 v_1 bits_2 out_7 Q (fun v_1' bits_2' out_7' w' => (v_1' = v_1) ∧ I bits_2' out_7' w' ∧ μ bits_2' out_7' w' < μ bits_2 out_7 w) w

def bin_put.j1 (v_1 : Int) (bits_2 : Int) (out_7 : Sl) (Q : Value → World → Prop) (w : World) : Prop :=
  bin_put.l1 v_1 bits_2 out_7 Q w

def bin_put (b_0 : Sl) (v_1 : Int) (bits_2 : Int) (Q : Value → World → Prop) (w : World) : Prop :=
  Calls Try.prog 124 ⟨[.slice b_0.a b_0.len b_0.cap]⟩ w fun e12 w13 =>
  ∃ r14 : Sl, e12 = .returned (.slice r14.a r14.len r14.cap) ∧
  bin_put.j1 v_1 bits_2 r14 Q w13

theorem bin_put.ok (b_0 : Sl) (v_1 : Int) (bits_2 : Int) (Q : Value → World → Prop) (w : World) (h : bin_put b_0 v_1 bits_2 Q w) : Calls Try.prog 132 ⟨[.slice b_0.a b_0.len b_0.cap, .int .i64 v_1, .int .i64 bits_2]⟩ w (Ret Q) := by
  refine calls_of_wpc [.tmp 6] Try.func132 rfl rfl rfl rfl ?_
  refine wpc_pre2 hmix (fun ρ w => asI .i64 (ρ 1) fun v_1 => asI .i64 (ρ 2) fun bits_2 => asL (ρ 7) fun out_7 => bin_put.j1 v_1 bits_2 out_7 Q w) (Eq.mp (by kernel_rfl) h) ?_
  intro ρ w h
  obtain ⟨v_1, e1, h⟩ := asI_el h
  obtain ⟨bits_2, e2, h⟩ := asI_el h
  obtain ⟨out_7, e7, h⟩ := asL_el h
  refine reroot e1 (reroot (upd_other e2 rfl) (reroot (upd_other (upd_other e7 rfl) rfl) ?_))
  refine wpc_seq (fun ρ w => asL (ρ 7) fun out_7 => bin_put.j2 out_7 Q w) ?_ ?_
  · skip
    refine wpc_block ?_
    obtain ⟨I, μ, hI, hr⟩ := h
    refine wpc_loopS (α := Int × Sl) (fun s ρ => ρ 2 = .int .i64 s.1 ∧ ρ 7 = .slice s.2.a s.2.len s.2.cap ∧ ρ 1 = .int .i64 v_1) (fun s w => I s.1 s.2 w) (fun s w => μ s.1 s.2 w) (bits_2, out_7) ⟨rfl, rfl, rfl⟩ hI ?_
    rintro ⟨bits_2, out_7⟩ ρ w ⟨e2, e7, e1⟩ hI
    have h := hr bits_2 out_7 w hI
    clear hr
    obtain ⟨nx1, hnx⟩ : ∃ nx : Int → Int → Sl → World → Prop, nx = (fun v_1' bits_2' out_7' w' => (v_1' = v_1) ∧ I bits_2' out_7' w' ∧ μ bits_2' out_7' w' < μ bits_2 out_7 w) := ⟨_, rfl⟩
    rw [← hnx] at h
    refine wpc_norm (M := fun ρ w => asI .i64 (ρ 1) fun v_1 => asI .i64 (ρ 2) fun bits_2 => asL (ρ 7) fun out_7 => nx1 v_1 bits_2 out_7 w) ?_ (fun ρ w h => ?_)
    · skip
      refine reroot e1 (reroot (upd_other e2 rfl) (reroot (upd_other (upd_other e7 rfl) rfl) ?_))
      exact pt_sound hmix _ (Eq.mp (by kernel_rfl) h)
    · skip
      obtain ⟨v_1', e1', h⟩ := asI_el h
      obtain ⟨bits_2', e2', h⟩ := asI_el h
      obtain ⟨out_7', e7', h⟩ := asL_el h
      rw [hnx] at h
      obtain ⟨hu, hI2, hμ⟩ := h
      obtain rfl := hu
      exact ⟨(bits_2', out_7'), ⟨e2', e7', e1'⟩, hI2, hμ⟩
  · intro ρ w h
    obtain ⟨out_7, e7, h⟩ := asL_el h
    refine reroot e7 ?_
    exact pt_sound hmix _ (Eq.mp (by kernel_rfl) h)

/-! trove/bin.Put16 -/
def bin_Put16 (b_0 : Sl) (v_1 : Int) (Q : Value → World → Prop) (w : World) : Prop :=
  Calls Try.prog 132 ⟨[.slice b_0.a b_0.len b_0.cap, .int .i64 v_1, .int .i64 16]⟩ w fun e1 w2 =>
  ∃ r3 : Sl, e1 = .returned (.slice r3.a r3.len r3.cap) ∧
  Q (.slice r3.a r3.len r3.cap) w2

theorem bin_Put16.ok (b_0 : Sl) (v_1 : Int) (Q : Value → World → Prop) (w : World) (h : bin_Put16 b_0 v_1 Q w) : Calls Try.prog 74 ⟨[.slice b_0.a b_0.len b_0.cap, .int .i64 v_1]⟩ w (Ret Q) := by
  refine calls_of_wpc [.tmp 4] Try.func74 rfl rfl rfl rfl ?_
  exact pt_sound hmix _ (Eq.mp (by kernel_rfl) h)

/-! trove/bin.Put32 -/
def bin_Put32 (b_0 : Sl) (v_1 : Int) (Q : Value → World → Prop) (w : World) : Prop :=
  Calls Try.prog 132 ⟨[.slice b_0.a b_0.len b_0.cap, .int .i64 v_1, .int .i64 32]⟩ w fun e1 w2 =>
  ∃ r3 : Sl, e1 = .returned (.slice r3.a r3.len r3.cap) ∧
  Q (.slice r3.a r3.len r3.cap) w2

theorem bin_Put32.ok (b_0 : Sl) (v_1 : Int) (Q : Value → World → Prop) (w : World) (h : bin_Put32 b_0 v_1 Q w) : Calls Try.prog 75 ⟨[.slice b_0.a b_0.len b_0.cap, .int .i64 v_1]⟩ w (Ret Q) := by
  refine calls_of_wpc [.tmp 4] Try.func75 rfl rfl rfl rfl ?_
  exact pt_sound hmix _ (Eq.mp (by kernel_rfl) h)

/-! trove/bin.Put64 -/
def bin_Put64 (b_0 : Sl) (v_1 : Int) (Q : Value → World → Prop) (w : World) : Prop :=
  Calls Try.prog 132 ⟨[.slice b_0.a b_0.len b_0.cap, .int .i64 v_1, .int .i64 64]⟩ w fun e1 w2 =>
  ∃ r3 : Sl, e1 = .returned (.slice r3.a r3.len r3.cap) ∧
  Q (.slice r3.a r3.len r3.cap) w2

theorem bin_Put64.ok (b_0 : Sl) (v_1 : Int) (Q : Value → World → Prop) (w : World) (h : bin_Put64 b_0 v_1 Q w) : Calls Try.prog 76 ⟨[.slice b_0.a b_0.len b_0.cap, .int .i64 v_1]⟩ w (Ret Q) := by
  refine calls_of_wpc [.tmp 4] Try.func76 rfl rfl rfl rfl ?_
  exact pt_sound hmix _ (Eq.mp (by kernel_rfl) h)

end Go.Proofs.Ytkajimndclhgaaa
