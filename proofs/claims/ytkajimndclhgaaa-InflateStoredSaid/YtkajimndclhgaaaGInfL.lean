/- PRINTED BY gen.py (own work): what calls come to, and the proofs of it. -/
import Derived.Test.YtkajimndclhgaaaVcJ
import Derived.Test.YtkajimndclhgaaaProg
namespace Go.Proofs.Ytkajimndclhgaaa
open Go Go.Proofs
set_option linter.unusedVariables false
set_option maxRecDepth 100000

/-! trove/trovelaw7.known -/
def trovelaw7_known  (Q : Value → World → Prop) (w : World) : Prop :=
  lt (⟨World.heapSize w, 0, none⟩ : Addr) fun a1 =>
  lt (World.alloc w (.cells ⟨[.int .u8 75, .int .u8 76, .int .u8 4, .int .u8 0]⟩ 5)) fun w2 =>
  Calls Try.prog 121 ⟨[.slice (some a1) 4 4, .int .i64 100]⟩ w2 fun e3 w4 =>
  ∃ r5 : Sl, ∃ r6 : Int, ∃ r7 : Int, e3 = .returned (.tuple ⟨[.slice r5.a r5.len r5.cap, .int .i64 r6, .int .i64 r7]⟩) ∧
  lt (⟨World.heapSize w4, 0, none⟩ : Addr) fun a8 =>
  lt (World.alloc w4 (.cells ⟨[.int .u8 1, .int .u8 1, .int .u8 0, .int .u8 254, .int .u8 255, .int .u8 122, .int .u8 9]⟩ 5)) fun w9 =>
  Calls Try.prog 121 ⟨[.slice (some a8) 7 7, .int .i64 100]⟩ w9 fun e10 w11 =>
  ∃ r12 : Sl, ∃ r13 : Int, ∃ r14 : Int, e10 = .returned (.tuple ⟨[.slice r12.a r12.len r12.cap, .int .i64 r13, .int .i64 r14]⟩) ∧
  lt (⟨World.heapSize w11, 0, none⟩ : Addr) fun a15 =>
  lt (World.alloc w11 (.cells ⟨[.int .u8 7]⟩ 5)) fun w16 =>
  Calls Try.prog 121 ⟨[.slice (some a15) 1 1, .int .i64 100]⟩ w16 fun e17 w18 =>
  ∃ r19 : Sl, ∃ r20 : Int, ∃ r21 : Int, e17 = .returned (.tuple ⟨[.slice r19.a r19.len r19.cap, .int .i64 r20, .int .i64 r21]⟩) ∧
  lt (IntKind.i64.wrap (r7 + r14)) fun x22 =>
  br ((x22 : Int) == 0) (
  btS w18 r5.a r5.len fun x23 =>
  br (ByteArray.toList x23 == ByteArray.toList ({ data := #[97, 97] })) (
  br ((r6 : Int) == 4) (
  btS w18 r12.a r12.len fun x24 =>
  br (ByteArray.toList x24 == ByteArray.toList ({ data := #[122] })) (
  br ((r13 : Int) == 6) (
  Q (.bool ((r21 : Int) == 2)) w18) (
  Q (.bool false) w18)) (
  Q (.bool false) w18)) (
  Q (.bool false) w18)) (
  Q (.bool false) w18)) (
  Q (.bool false) w18)

theorem trovelaw7_known.ok  (Q : Value → World → Prop) (w : World) (h : trovelaw7_known  Q w) : Calls Try.prog 113 ⟨[]⟩ w (Ret Q) := by
  refine calls_of_wpc [.tmp 0] Try.func113 rfl rfl rfl rfl ?_
  exact pt_sound hmix _ (Eq.mp (by kernel_rfl) h)

/-! trove/trovelaw7.sym -/
def trovelaw7_sym.j2  (Q : Value → World → Prop) (w : World) : Prop :=
  Q (.tuple ⟨[.int .i64 0, .int .i64 0, .int .i64 0]⟩) w

def trovelaw7_sym.j5 (v_0 : Int) (dist_1 : Bool) (s_7 : Int) (Q : Value → World → Prop) (nx1 : Int → Bool → Int → World → Prop) (w : World) : Prop :=
  lt (IntKind.i64.wrap (s_7 + 1)) fun x1 =>
  nx1 v_0 dist_1 x1 w

def trovelaw7_sym.j8 (v_0 : Int) (dist_1 : Bool) (s_7 : Int) (b_8 : Int) (x_9 : Int) (n_11 : Int) (t47 : Bool) (Q : Value → World → Prop) (nx1 : Int → Bool → Int → World → Prop) (w : World) : Prop :=
  br t47 (
  lt (IntKind.i64.wrap (v_0 - b_8)) fun x2 =>
  Q (.tuple ⟨[.int .i64 n_11, .int .i64 x2, .int .i64 x_9]⟩) w) (
  trovelaw7_sym.j5 v_0 dist_1 s_7 Q nx1 w)

def trovelaw7_sym.j7 (v_0 : Int) (dist_1 : Bool) (s_7 : Int) (b_8 : Int) (x_9 : Int) (ok_10 : Bool) (n_11 : Int) (Q : Value → World → Prop) (nx1 : Int → Bool → Int → World → Prop) (w : World) : Prop :=
  br ok_10 (
  br (decide ((v_0 : Int) ≥ b_8)) (
  lt (IntKind.u64.wrap x_9) fun x3 =>
  (0 : Int) ≤ x3 ∧
  lt (shlV .i64 1 x3) fun x4 =>
  lt (IntKind.i64.wrap (b_8 + x4)) fun x5 =>
  trovelaw7_sym.j8 v_0 dist_1 s_7 b_8 x_9 n_11 (decide ((v_0 : Int) < x5)) Q nx1 w) (
  trovelaw7_sym.j8 v_0 dist_1 s_7 b_8 x_9 n_11 false Q nx1 w)) (
  trovelaw7_sym.j8 v_0 dist_1 s_7 b_8 x_9 n_11 false Q nx1 w)

def trovelaw7_sym.j6 (v_0 : Int) (dist_1 : Bool) (s_7 : Int) (b_8 : Int) (x_9 : Int) (ok_10 : Bool) (Q : Value → World → Prop) (nx1 : Int → Bool → Int → World → Prop) (w : World) : Prop :=
  br (!dist_1) (
  lt (IntKind.i64.wrap (285 - s_7)) fun x6 =>
  Calls Try.prog 117 ⟨[.int .i64 x6]⟩ w fun e7 w8 =>
  ∃ r9 : Int, ∃ r10 : Int, ∃ r11 : Bool, e7 = .returned (.tuple ⟨[.int .i64 r9, .int .i64 r10, .bool r11]⟩) ∧
  trovelaw7_sym.j7 v_0 dist_1 s_7 r9 r10 r11 x6 Q nx1 w8) (
  trovelaw7_sym.j7 v_0 dist_1 s_7 b_8 x_9 ok_10 s_7 Q nx1 w)

def trovelaw7_sym.j4 (v_0 : Int) (dist_1 : Bool) (s_7 : Int) (Q : Value → World → Prop) (nx1 : Int → Bool → Int → World → Prop) (w : World) : Prop :=
  Calls Try.prog 119 ⟨[.int .i64 s_7]⟩ w fun e12 w13 =>
  ∃ r14 : Int, ∃ r15 : Int, ∃ r16 : Bool, e12 = .returned (.tuple ⟨[.int .i64 r14, .int .i64 r15, .bool r16]⟩) ∧
  trovelaw7_sym.j6 v_0 dist_1 s_7 r14 r15 r16 Q nx1 w13

def trovelaw7_sym.b1 (v_0 : Int) (dist_1 : Bool) (s_7 : Int) (Q : Value → World → Prop) (nx1 : Int → Bool → Int → World → Prop) (w : World) : Prop :=
  br (decide ((s_7 : Int) < 30)) (
  trovelaw7_sym.j4 v_0 dist_1 s_7 Q nx1 w) (
  trovelaw7_sym.j2 Q w)

def trovelaw7_sym.l1 (v_0 : Int) (dist_1 : Bool) (s_7 : Int) (Q : Value → World → Prop) (w : World) : Prop :=
  ∃ (I : Int → World → Prop) (μ : Int → World → Nat), I s_7 w ∧ ∀ s_7 : Int, ∀ w : World, I s_7 w → trovelaw7_sym.b1 v_0 dist_1 s_7 Q (fun v_0' dist_1' s_7' w' => (v_0' = v_0 ∧ dist_1' = dist_1) ∧ I s_7' w' ∧ μ s_7' w' < μ s_7 w) w

def trovelaw7_sym.j3 (v_0 : Int) (dist_1 : Bool) (s_7 : Int) (Q : Value → World → Prop) (w : World) : Prop :=
  trovelaw7_sym.l1 v_0 dist_1 s_7 Q w

def trovelaw7_sym.j1 (v_0 : Int) (dist_1 : Bool) (Q : Value → World → Prop) (w : World) : Prop :=
  trovelaw7_sym.j3 v_0 dist_1 0 Q w

def trovelaw7_sym (v_0 : Int) (dist_1 : Bool) (Q : Value → World → Prop) (w : World) : Prop :=
  trovelaw7_sym.j1 v_0 dist_1 Q w

theorem trovelaw7_sym.ok (v_0 : Int) (dist_1 : Bool) (Q : Value → World → Prop) (w : World) (h : trovelaw7_sym v_0 dist_1 Q w) : Calls Try.prog 123 ⟨[.int .i64 v_0, .bool dist_1]⟩ w (Ret Q) := by
  refine calls_of_wpc [.tmp 4, .tmp 5, .tmp 6] Try.func123 rfl rfl rfl rfl ?_
  refine wpc_seq (fun ρ w => asI .i64 (ρ 0) fun v_0 => asB (ρ 1) fun dist_1 => trovelaw7_sym.j1 v_0 dist_1 Q w) ?_ ?_
  · skip
    exact pt_sound hmix _ (Eq.mp (by kernel_rfl) h)
  · intro ρ w h
    obtain ⟨v_0, e0, h⟩ := asI_el h
    obtain ⟨dist_1, e1, h⟩ := asB_el h
    refine reroot e0 (reroot (upd_other e1 rfl) ?_)
    refine wpc_seq (fun ρ w =>  trovelaw7_sym.j2  Q w) ?_ ?_
    · skip
      refine wpc_seq (fun ρ w => asI .i64 (ρ 0) fun v_0 => asB (ρ 1) fun dist_1 => asI .i64 (ρ 7) fun s_7 => trovelaw7_sym.j3 v_0 dist_1 s_7 Q w) ?_ ?_
      · skip
        exact pt_sound hmix _ (Eq.mp (by kernel_rfl) h)
      · intro ρ w h
        obtain ⟨v_0, e0, h⟩ := asI_el h
        obtain ⟨dist_1, e1, h⟩ := asB_el h
        obtain ⟨s_7, e7, h⟩ := asI_el h
        refine reroot e0 (reroot (upd_other e1 rfl) (reroot (upd_other (upd_other e7 rfl) rfl) ?_))
        refine wpc_block ?_
        obtain ⟨I, μ, hI, hr⟩ := h
        refine wpc_loopS (α := Int) (fun s ρ => ρ 7 = .int .i64 s ∧ ρ 0 = .int .i64 v_0 ∧ ρ 1 = .bool dist_1) (fun s w => I s w) (fun s w => μ s w) s_7 ⟨rfl, rfl, rfl⟩ hI ?_
        rintro s_7 ρ w ⟨e7, e0, e1⟩ hI
        have h := hr s_7 w hI
        clear hr
        obtain ⟨nx1, hnx⟩ : ∃ nx : Int → Bool → Int → World → Prop, nx = (fun v_0' dist_1' s_7' w' => (v_0' = v_0 ∧ dist_1' = dist_1) ∧ I s_7' w' ∧ μ s_7' w' < μ s_7 w) := ⟨_, rfl⟩
        rw [← hnx] at h
        refine wpc_norm (M := fun ρ w => asI .i64 (ρ 0) fun v_0 => asB (ρ 1) fun dist_1 => asI .i64 (ρ 7) fun s_7 => nx1 v_0 dist_1 s_7 w) ?_ (fun ρ w h => ?_)
        · skip
          refine reroot e0 (reroot (upd_other e1 rfl) (reroot (upd_other (upd_other e7 rfl) rfl) ?_))
          refine wpc_seq (fun ρ w => asI .i64 (ρ 0) fun v_0 => asB (ρ 1) fun dist_1 => asI .i64 (ρ 7) fun s_7 => trovelaw7_sym.j4 v_0 dist_1 s_7 Q nx1 w) ?_ ?_
          · skip
            exact pt_sound hmix _ (Eq.mp (by kernel_rfl) h)
          · intro ρ w h
            obtain ⟨v_0, e0, h⟩ := asI_el h
            obtain ⟨dist_1, e1, h⟩ := asB_el h
            obtain ⟨s_7, e7, h⟩ := asI_el h
            refine reroot e0 (reroot (upd_other e1 rfl) (reroot (upd_other (upd_other e7 rfl) rfl) ?_))
            refine wpc_seq (fun ρ w => asI .i64 (ρ 0) fun v_0 => asB (ρ 1) fun dist_1 => asI .i64 (ρ 7) fun s_7 => trovelaw7_sym.j5 v_0 dist_1 s_7 Q nx1 w) ?_ ?_
            · skip
              refine wpc_block ?_
              refine wpc_seq (fun ρ w => asI .i64 (ρ 0) fun v_0 => asB (ρ 1) fun dist_1 => asI .i64 (ρ 7) fun s_7 => asI .i64 (ρ 8) fun b_8 => asI .i64 (ρ 9) fun x_9 => asB (ρ 10) fun ok_10 => trovelaw7_sym.j6 v_0 dist_1 s_7 b_8 x_9 ok_10 Q nx1 w) ?_ ?_
              · skip
                exact pt_sound hmix _ (Eq.mp (by kernel_rfl) h)
              · intro ρ w h
                obtain ⟨v_0, e0, h⟩ := asI_el h
                obtain ⟨dist_1, e1, h⟩ := asB_el h
                obtain ⟨s_7, e7, h⟩ := asI_el h
                obtain ⟨b_8, e8, h⟩ := asI_el h
                obtain ⟨x_9, e9, h⟩ := asI_el h
                obtain ⟨ok_10, e10, h⟩ := asB_el h
                refine reroot e0 (reroot (upd_other e1 rfl) (reroot (upd_other (upd_other e7 rfl) rfl) (reroot (upd_other (upd_other (upd_other e8 rfl) rfl) rfl) (reroot (upd_other (upd_other (upd_other (upd_other e9 rfl) rfl) rfl) rfl) (reroot (upd_other (upd_other (upd_other (upd_other (upd_other e10 rfl) rfl) rfl) rfl) rfl) ?_)))))
                refine wpc_pre2 hmix (fun ρ w => asI .i64 (ρ 0) fun v_0 => asB (ρ 1) fun dist_1 => asI .i64 (ρ 7) fun s_7 => asI .i64 (ρ 8) fun b_8 => asI .i64 (ρ 9) fun x_9 => asB (ρ 10) fun ok_10 => asI .i64 (ρ 11) fun n_11 => trovelaw7_sym.j7 v_0 dist_1 s_7 b_8 x_9 ok_10 n_11 Q nx1 w) (Eq.mp (by kernel_rfl) h) ?_
                intro ρ w h
                obtain ⟨v_0, e0, h⟩ := asI_el h
                obtain ⟨dist_1, e1, h⟩ := asB_el h
                obtain ⟨s_7, e7, h⟩ := asI_el h
                obtain ⟨b_8, e8, h⟩ := asI_el h
                obtain ⟨x_9, e9, h⟩ := asI_el h
                obtain ⟨ok_10, e10, h⟩ := asB_el h
                obtain ⟨n_11, e11, h⟩ := asI_el h
                refine reroot e0 (reroot (upd_other e1 rfl) (reroot (upd_other (upd_other e7 rfl) rfl) (reroot (upd_other (upd_other (upd_other e8 rfl) rfl) rfl) (reroot (upd_other (upd_other (upd_other (upd_other e9 rfl) rfl) rfl) rfl) (reroot (upd_other (upd_other (upd_other (upd_other (upd_other e10 rfl) rfl) rfl) rfl) rfl) (reroot (upd_other (upd_other (upd_other (upd_other (upd_other (upd_other e11 rfl) rfl) rfl) rfl) rfl) rfl) ?_))))))
                refine wpc_seq (fun ρ w => asI .i64 (ρ 0) fun v_0 => asB (ρ 1) fun dist_1 => asI .i64 (ρ 7) fun s_7 => asI .i64 (ρ 8) fun b_8 => asI .i64 (ρ 9) fun x_9 => asI .i64 (ρ 11) fun n_11 => asB (ρ 47) fun t47 => trovelaw7_sym.j8 v_0 dist_1 s_7 b_8 x_9 n_11 t47 Q nx1 w) ?_ ?_
                · skip
                  exact pt_sound hmix _ (Eq.mp (by kernel_rfl) h)
                · intro ρ w h
                  obtain ⟨v_0, e0, h⟩ := asI_el h
                  obtain ⟨dist_1, e1, h⟩ := asB_el h
                  obtain ⟨s_7, e7, h⟩ := asI_el h
                  obtain ⟨b_8, e8, h⟩ := asI_el h
                  obtain ⟨x_9, e9, h⟩ := asI_el h
                  obtain ⟨n_11, e11, h⟩ := asI_el h
                  obtain ⟨t47, e47, h⟩ := asB_el h
                  refine reroot e0 (reroot (upd_other e1 rfl) (reroot (upd_other (upd_other e7 rfl) rfl) (reroot (upd_other (upd_other (upd_other e8 rfl) rfl) rfl) (reroot (upd_other (upd_other (upd_other (upd_other e9 rfl) rfl) rfl) rfl) (reroot (upd_other (upd_other (upd_other (upd_other (upd_other e11 rfl) rfl) rfl) rfl) rfl) (reroot (upd_other (upd_other (upd_other (upd_other (upd_other (upd_other e47 rfl) rfl) rfl) rfl) rfl) rfl) ?_))))))
                  exact pt_sound hmix _ (Eq.mp (by kernel_rfl) h)
            · intro ρ w h
              obtain ⟨v_0, e0, h⟩ := asI_el h
              obtain ⟨dist_1, e1, h⟩ := asB_el h
              obtain ⟨s_7, e7, h⟩ := asI_el h
              refine reroot e0 (reroot (upd_other e1 rfl) (reroot (upd_other (upd_other e7 rfl) rfl) ?_))
              exact pt_sound hmix _ (Eq.mp (by kernel_rfl) h)
        · skip
          obtain ⟨v_0', e0', h⟩ := asI_el h
          obtain ⟨dist_1', e1', h⟩ := asB_el h
          obtain ⟨s_7', e7', h⟩ := asI_el h
          rw [hnx] at h
          obtain ⟨hu, hI2, hμ⟩ := h
          obtain ⟨rfl, rfl⟩ := hu
          exact ⟨s_7', ⟨e7', e0', e1'⟩, hI2, hμ⟩
    · intro ρ w h
      exact pt_sound hmix _ (Eq.mp (by kernel_rfl) h)

/-! trove/trovelaw7.put -/
def trovelaw7_put (w_0 : (Option Addr)) (s_1 : Int) (Q : Value → World → Prop) (w : World) : Prop :=
  br (decide ((s_1 : Int) < 144)) (
  lt (IntKind.i64.wrap (48 + s_1)) fun x1 =>
  Calls Try.prog 43 ⟨[.pointer w_0, .int .i64 x1, .int .i64 8]⟩ w fun e2 w3 =>
  e2 = .returned (.tuple ⟨[]⟩) ∧
  Q (.tuple ⟨[]⟩) w3) (
  br (decide ((s_1 : Int) < 256)) (
  lt (IntKind.i64.wrap (400 + s_1)) fun x4 =>
  lt (IntKind.i64.wrap (x4 - 144)) fun x5 =>
  Calls Try.prog 43 ⟨[.pointer w_0, .int .i64 x5, .int .i64 9]⟩ w fun e6 w7 =>
  e6 = .returned (.tuple ⟨[]⟩) ∧
  Q (.tuple ⟨[]⟩) w7) (
  br (decide ((s_1 : Int) < 280)) (
  lt (IntKind.i64.wrap (s_1 - 256)) fun x8 =>
  Calls Try.prog 43 ⟨[.pointer w_0, .int .i64 x8, .int .i64 7]⟩ w fun e9 w10 =>
  e9 = .returned (.tuple ⟨[]⟩) ∧
  Q (.tuple ⟨[]⟩) w10) (
  lt (IntKind.i64.wrap (192 + s_1)) fun x11 =>
  lt (IntKind.i64.wrap (x11 - 280)) fun x12 =>
  Calls Try.prog 43 ⟨[.pointer w_0, .int .i64 x12, .int .i64 8]⟩ w fun e13 w14 =>
  e13 = .returned (.tuple ⟨[]⟩) ∧
  Q (.tuple ⟨[]⟩) w14)))

theorem trovelaw7_put.ok (w_0 : (Option Addr)) (s_1 : Int) (Q : Value → World → Prop) (w : World) (h : trovelaw7_put w_0 s_1 Q w) : Calls Try.prog 122 ⟨[.pointer w_0, .int .i64 s_1]⟩ w (Ret Q) := by
  refine calls_of_wpc [] Try.func122 rfl rfl rfl rfl ?_
  exact pt_sound hmix _ (Eq.mp (by kernel_rfl) h)

/-! trove/trovelaw7.fixed -/
def trovelaw7_fixed.j4 (t5 : (Option Addr)) (t6 : Sl) (Q : Value → World → Prop) (w : World) : Prop :=
  Calls Try.prog 122 ⟨[.pointer t5, .int .i64 256]⟩ w fun e1 w2 =>
  e1 = .returned (.tuple ⟨[]⟩) ∧
  Calls Try.prog 49 ⟨[.pointer t5]⟩ w2 fun e3 w4 =>
  ∃ r5 : Sl, e3 = .returned (.slice r5.a r5.len r5.cap) ∧
  Q (.tuple ⟨[.slice r5.a r5.len r5.cap, .slice t6.a t6.len t6.cap, .bool true]⟩) w4

def trovelaw7_fixed.j7 (d_0 : Sl) (t5 : (Option Addr)) (t6 : Sl) (t7 : Int) (Q : Value → World → Prop) (nx1 : Sl → (Option Addr) → Sl → Int → World → Prop) (w : World) : Prop :=
  lt (IntKind.i64.wrap (t7 + 1)) fun x6 =>
  nx1 d_0 t5 t6 x6 w

def trovelaw7_fixed.b2 (d_0 : Sl) (t5 : (Option Addr)) (t7 : Int) (t8 : Addr) (t6 : Sl) (t12 : Int) (Q : Value → World → Prop) (nx1 : Sl → (Option Addr) → Sl → Int → World → Prop) (nx2 : Sl → (Option Addr) → Int → Addr → Sl → Int → World → Prop) (w : World) : Prop :=
  ldI .i64 w (Addr.add t8 1) fun x7 =>
  br (decide ((t12 : Int) < x7)) (
  ldI .i64 w (Addr.add t8 2) fun x8 =>
  lt (IntKind.i64.wrap (((t6.len : Nat) : Int) - x8)) fun x9 =>
  ixS t6.a t6.len x9 1 fun a10 =>
  ldI .u8 w a10 fun x11 =>
  lt (⟨World.heapSize w, 0, none⟩ : Addr) fun a12 =>
  lt (World.alloc w (.cells ⟨[.int .u8 x11]⟩ 5)) fun w13 =>
  rdO w13 (some a12) (1 * 1) fun c14 =>
  apK Try.prog 5 w13 t6.a t6.len t6.cap 1 c14 fun s15 w16 =>
  lt (IntKind.i64.wrap (t12 + 1)) fun x17 =>
  nx2 d_0 t5 t7 t8 s15 x17 w16) (
  trovelaw7_fixed.j7 d_0 t5 t6 t7 Q nx1 w)

def trovelaw7_fixed.l2 (d_0 : Sl) (t5 : (Option Addr)) (t7 : Int) (t8 : Addr) (t6 : Sl) (t12 : Int) (Q : Value → World → Prop) (nx1 : Sl → (Option Addr) → Sl → Int → World → Prop) (w : World) : Prop :=
  ∃ (I : Sl → Int → World → Prop) (μ : Sl → Int → World → Nat), I t6 t12 w ∧ ∀ t6 : Sl, ∀ t12 : Int, ∀ w : World, I t6 t12 w → trovelaw7_fixed.b2 d_0 t5 t7 t8 t6 t12 Q nx1 (fun d_0' t5' t7' t8' t6' t12' w' => (d_0' = d_0 ∧ t5' = t5 ∧ t7' = t7 ∧ t8' = t8) ∧ I t6' t12' w' ∧ μ t6' t12' w' < μ t6 t12 w) w

def trovelaw7_fixed.j12 (d_0 : Sl) (t5 : (Option Addr)) (t6 : Sl) (t7 : Int) (t8 : Addr) (t12 : Int) (Q : Value → World → Prop) (nx1 : Sl → (Option Addr) → Sl → Int → World → Prop) (w : World) : Prop :=
  trovelaw7_fixed.l2 d_0 t5 t7 t8 t6 t12 Q nx1 w

def trovelaw7_fixed.j11 (d_0 : Sl) (t5 : (Option Addr)) (t6 : Sl) (t7 : Int) (t8 : Addr) (t10 : Int) (t11 : Int) (Q : Value → World → Prop) (nx1 : Sl → (Option Addr) → Sl → Int → World → Prop) (w : World) : Prop :=
  Calls Try.prog 42 ⟨[.pointer t5, .int .i64 t10, .int .i64 t11]⟩ w fun e18 w19 =>
  e18 = .returned (.tuple ⟨[]⟩) ∧
  trovelaw7_fixed.j12 d_0 t5 t6 t7 t8 0 Q nx1 w19

def trovelaw7_fixed.j10 (d_0 : Sl) (t5 : (Option Addr)) (t6 : Sl) (t7 : Int) (t8 : Addr) (Q : Value → World → Prop) (nx1 : Sl → (Option Addr) → Sl → Int → World → Prop) (w : World) : Prop :=
  ldI .i64 w (Addr.add t8 2) fun x20 =>
  Calls Try.prog 123 ⟨[.int .i64 x20, .bool true]⟩ w fun e21 w22 =>
  ∃ r23 : Int, ∃ r24 : Int, ∃ r25 : Int, e21 = .returned (.tuple ⟨[.int .i64 r23, .int .i64 r24, .int .i64 r25]⟩) ∧
  Calls Try.prog 43 ⟨[.pointer t5, .int .i64 r23, .int .i64 5]⟩ w22 fun e26 w27 =>
  e26 = .returned (.tuple ⟨[]⟩) ∧
  trovelaw7_fixed.j11 d_0 t5 t6 t7 t8 r24 r25 Q nx1 w27

def trovelaw7_fixed.j9 (d_0 : Sl) (t5 : (Option Addr)) (t6 : Sl) (t7 : Int) (t8 : Addr) (t9 : Int) (t10 : Int) (t11 : Int) (Q : Value → World → Prop) (nx1 : Sl → (Option Addr) → Sl → Int → World → Prop) (w : World) : Prop :=
  Calls Try.prog 122 ⟨[.pointer t5, .int .i64 t9]⟩ w fun e28 w29 =>
  e28 = .returned (.tuple ⟨[]⟩) ∧
  Calls Try.prog 42 ⟨[.pointer t5, .int .i64 t10, .int .i64 t11]⟩ w29 fun e30 w31 =>
  e30 = .returned (.tuple ⟨[]⟩) ∧
  trovelaw7_fixed.j10 d_0 t5 t6 t7 t8 Q nx1 w31

def trovelaw7_fixed.j8 (d_0 : Sl) (t5 : (Option Addr)) (t6 : Sl) (t7 : Int) (t8 : Addr) (Q : Value → World → Prop) (nx1 : Sl → (Option Addr) → Sl → Int → World → Prop) (w : World) : Prop :=
  ldI .i64 w (Addr.add t8 1) fun x32 =>
  br (decide ((x32 : Int) < 3)) (
  Q (.tuple ⟨[.slice none 0 0, .slice none 0 0, .bool false]⟩) w) (
  ldI .i64 w (Addr.add t8 1) fun x33 =>
  br (decide ((x33 : Int) > 258)) (
  Q (.tuple ⟨[.slice none 0 0, .slice none 0 0, .bool false]⟩) w) (
  ldI .i64 w (Addr.add t8 2) fun x34 =>
  br (decide ((x34 : Int) < 1)) (
  Q (.tuple ⟨[.slice none 0 0, .slice none 0 0, .bool false]⟩) w) (
  ldI .i64 w (Addr.add t8 2) fun x35 =>
  br (decide ((x35 : Int) > ((t6.len : Nat) : Int))) (
  Q (.tuple ⟨[.slice none 0 0, .slice none 0 0, .bool false]⟩) w) (
  ldI .i64 w (Addr.add t8 2) fun x36 =>
  br (decide ((x36 : Int) > 32768)) (
  Q (.tuple ⟨[.slice none 0 0, .slice none 0 0, .bool false]⟩) w) (
  br (decide ((((t6.len : Nat) : Int) : Int) > 4000)) (
  Q (.tuple ⟨[.slice none 0 0, .slice none 0 0, .bool false]⟩) w) (
  ldI .i64 w (Addr.add t8 1) fun x37 =>
  Calls Try.prog 123 ⟨[.int .i64 x37, .bool false]⟩ w fun e38 w39 =>
  ∃ r40 : Int, ∃ r41 : Int, ∃ r42 : Int, e38 = .returned (.tuple ⟨[.int .i64 r40, .int .i64 r41, .int .i64 r42]⟩) ∧
  trovelaw7_fixed.j9 d_0 t5 t6 t7 t8 r40 r41 r42 Q nx1 w39))))))

def trovelaw7_fixed.j6 (d_0 : Sl) (t5 : (Option Addr)) (t6 : Sl) (t7 : Int) (Q : Value → World → Prop) (nx1 : Sl → (Option Addr) → Sl → Int → World → Prop) (w : World) : Prop :=
  ixS d_0.a d_0.len t7 3 fun a43 =>
  ldA w a43 3 fun c44 =>
  lt (⟨World.heapSize w, 0, none⟩ : Addr) fun a45 =>
  lt (World.alloc w (.cells (zc Try.prog 140) 140)) fun w46 =>
  (c44).size = 3 ∧
  stA w46 a45 c44 fun w47 =>
  ldI .i64 w47 (Addr.add a45 1) fun x48 =>
  br ((x48 : Int) == 0) (
  ldI .u8 w47 (Addr.add a45 0) fun x49 =>
  lt (IntKind.i64.wrap x49) fun x50 =>
  Calls Try.prog 122 ⟨[.pointer t5, .int .i64 x50]⟩ w47 fun e51 w52 =>
  e51 = .returned (.tuple ⟨[]⟩) ∧
  ldI .u8 w52 (Addr.add a45 0) fun x53 =>
  lt (⟨World.heapSize w52, 0, none⟩ : Addr) fun a54 =>
  lt (World.alloc w52 (.cells ⟨[.int .u8 x53]⟩ 5)) fun w55 =>
  rdO w55 (some a54) (1 * 1) fun c56 =>
  apK Try.prog 5 w55 t6.a t6.len t6.cap 1 c56 fun s57 w58 =>
  trovelaw7_fixed.j7 d_0 t5 s57 t7 Q nx1 w58) (
  trovelaw7_fixed.j8 d_0 t5 t6 t7 a45 Q nx1 w47)

def trovelaw7_fixed.b1 (d_0 : Sl) (t5 : (Option Addr)) (t6 : Sl) (t7 : Int) (Q : Value → World → Prop) (nx1 : Sl → (Option Addr) → Sl → Int → World → Prop) (w : World) : Prop :=
  br (decide ((t7 : Int) < ((d_0.len : Nat) : Int))) (
  trovelaw7_fixed.j6 d_0 t5 t6 t7 Q nx1 w) (
  trovelaw7_fixed.j4 t5 t6 Q w)

def trovelaw7_fixed.l1 (d_0 : Sl) (t5 : (Option Addr)) (t6 : Sl) (t7 : Int) (Q : Value → World → Prop) (w : World) : Prop :=
  ∃ (I : Sl → Int → World → Prop) (μ : Sl → Int → World → Nat), I t6 t7 w ∧ ∀ t6 : Sl, ∀ t7 : Int, ∀ w : World, I t6 t7 w → trovelaw7_fixed.b1 d_0 t5 t6 t7 Q (fun d_0' t5' t6' t7' w' => (d_0' = d_0 ∧ t5' = t5) ∧ I t6' t7' w' ∧ μ t6' t7' w' < μ t6 t7 w) w

def trovelaw7_fixed.j5 (d_0 : Sl) (t5 : (Option Addr)) (t6 : Sl) (t7 : Int) (Q : Value → World → Prop) (w : World) : Prop :=
  trovelaw7_fixed.l1 d_0 t5 t6 t7 Q w

def trovelaw7_fixed.j3 (d_0 : Sl) (t5 : (Option Addr)) (t6 : Sl) (Q : Value → World → Prop) (w : World) : Prop :=
  trovelaw7_fixed.j5 d_0 t5 t6 0 Q w

def trovelaw7_fixed.j2 (d_0 : Sl) (t5 : (Option Addr)) (Q : Value → World → Prop) (w : World) : Prop :=
  Calls Try.prog 42 ⟨[.pointer t5, .int .i64 1, .int .i64 2]⟩ w fun e59 w60 =>
  e59 = .returned (.tuple ⟨[]⟩) ∧
  trovelaw7_fixed.j3 d_0 t5 ⟨none, 0, 0⟩ Q w60

def trovelaw7_fixed.j1 (d_0 : Sl) (Q : Value → World → Prop) (w : World) : Prop :=
  lt (⟨World.heapSize w, 0, none⟩ : Addr) fun a61 =>
  lt (World.alloc w (.cells (⟨[.slice none 0 0]⟩ : Array Value) 42)) fun w62 =>
  Calls Try.prog 42 ⟨[.pointer (some a61), .int .i64 1, .int .i64 1]⟩ w62 fun e63 w64 =>
  e63 = .returned (.tuple ⟨[]⟩) ∧
  trovelaw7_fixed.j2 d_0 (some a61) Q w64

def trovelaw7_fixed (d_0 : Sl) (Q : Value → World → Prop) (w : World) : Prop :=
  trovelaw7_fixed.j1 d_0 Q w

theorem trovelaw7_fixed.ok (d_0 : Sl) (Q : Value → World → Prop) (w : World) (h : trovelaw7_fixed d_0 Q w) : Calls Try.prog 120 ⟨[.slice d_0.a d_0.len d_0.cap]⟩ w (Ret Q) := by
  refine calls_of_wpc [.tmp 2, .tmp 3, .tmp 4] Try.func120 rfl rfl rfl rfl ?_
  refine wpc_seq (fun ρ w => asL (ρ 0) fun d_0 => trovelaw7_fixed.j1 d_0 Q w) ?_ ?_
  · skip
    exact pt_sound hmix _ (Eq.mp (by kernel_rfl) h)
  · intro ρ w h
    obtain ⟨d_0, e0, h⟩ := asL_el h
    refine reroot e0 ?_
    refine wpc_pre2 hmix (fun ρ w => asL (ρ 0) fun d_0 => asP (ρ 5) fun t5 => trovelaw7_fixed.j2 d_0 t5 Q w) (Eq.mp (by kernel_rfl) h) ?_
    intro ρ w h
    obtain ⟨d_0, e0, h⟩ := asL_el h
    obtain ⟨t5, e5, h⟩ := asP_el h
    refine reroot e0 (reroot (upd_other e5 rfl) ?_)
    refine wpc_pre2 hmix (fun ρ w => asL (ρ 0) fun d_0 => asP (ρ 5) fun t5 => asL (ρ 6) fun t6 => trovelaw7_fixed.j3 d_0 t5 t6 Q w) (Eq.mp (by kernel_rfl) h) ?_
    intro ρ w h
    obtain ⟨d_0, e0, h⟩ := asL_el h
    obtain ⟨t5, e5, h⟩ := asP_el h
    obtain ⟨t6, e6, h⟩ := asL_el h
    refine reroot e0 (reroot (upd_other e5 rfl) (reroot (upd_other (upd_other e6 rfl) rfl) ?_))
    refine wpc_seq (fun ρ w => asP (ρ 5) fun t5 => asL (ρ 6) fun t6 => trovelaw7_fixed.j4 t5 t6 Q w) ?_ ?_
    · skip
      refine wpc_seq (fun ρ w => asL (ρ 0) fun d_0 => asP (ρ 5) fun t5 => asL (ρ 6) fun t6 => asI .i64 (ρ 7) fun t7 => trovelaw7_fixed.j5 d_0 t5 t6 t7 Q w) ?_ ?_
      · skip
        exact pt_sound hmix _ (Eq.mp (by kernel_rfl) h)
      · intro ρ w h
        obtain ⟨d_0, e0, h⟩ := asL_el h
        obtain ⟨t5, e5, h⟩ := asP_el h
        obtain ⟨t6, e6, h⟩ := asL_el h
        obtain ⟨t7, e7, h⟩ := asI_el h
        refine reroot e0 (reroot (upd_other e5 rfl) (reroot (upd_other (upd_other e6 rfl) rfl) (reroot (upd_other (upd_other (upd_other e7 rfl) rfl) rfl) ?_)))
        refine wpc_block ?_
        obtain ⟨I, μ, hI, hr⟩ := h
        refine wpc_loopS (α := Sl × Int) (fun s ρ => ρ 6 = .slice s.1.a s.1.len s.1.cap ∧ ρ 7 = .int .i64 s.2 ∧ ρ 0 = .slice d_0.a d_0.len d_0.cap ∧ ρ 5 = .pointer t5) (fun s w => I s.1 s.2 w) (fun s w => μ s.1 s.2 w) (t6, t7) ⟨rfl, rfl, rfl, rfl⟩ hI ?_
        rintro ⟨t6, t7⟩ ρ w ⟨e6, e7, e0, e5⟩ hI
        have h := hr t6 t7 w hI
        clear hr
        obtain ⟨nx1, hnx⟩ : ∃ nx : Sl → (Option Addr) → Sl → Int → World → Prop, nx = (fun d_0' t5' t6' t7' w' => (d_0' = d_0 ∧ t5' = t5) ∧ I t6' t7' w' ∧ μ t6' t7' w' < μ t6 t7 w) := ⟨_, rfl⟩
        rw [← hnx] at h
        refine wpc_norm (M := fun ρ w => asL (ρ 0) fun d_0 => asP (ρ 5) fun t5 => asL (ρ 6) fun t6 => asI .i64 (ρ 7) fun t7 => nx1 d_0 t5 t6 t7 w) ?_ (fun ρ w h => ?_)
        · skip
          refine reroot e0 (reroot (upd_other e5 rfl) (reroot (upd_other (upd_other e6 rfl) rfl) (reroot (upd_other (upd_other (upd_other e7 rfl) rfl) rfl) ?_)))
          refine wpc_seq (fun ρ w => asL (ρ 0) fun d_0 => asP (ρ 5) fun t5 => asL (ρ 6) fun t6 => asI .i64 (ρ 7) fun t7 => trovelaw7_fixed.j6 d_0 t5 t6 t7 Q nx1 w) ?_ ?_
          · skip
            exact pt_sound hmix _ (Eq.mp (by kernel_rfl) h)
          · intro ρ w h
            obtain ⟨d_0, e0, h⟩ := asL_el h
            obtain ⟨t5, e5, h⟩ := asP_el h
            obtain ⟨t6, e6, h⟩ := asL_el h
            obtain ⟨t7, e7, h⟩ := asI_el h
            refine reroot e0 (reroot (upd_other e5 rfl) (reroot (upd_other (upd_other e6 rfl) rfl) (reroot (upd_other (upd_other (upd_other e7 rfl) rfl) rfl) ?_)))
            refine wpc_seq (fun ρ w => asL (ρ 0) fun d_0 => asP (ρ 5) fun t5 => asL (ρ 6) fun t6 => asI .i64 (ρ 7) fun t7 => trovelaw7_fixed.j7 d_0 t5 t6 t7 Q nx1 w) ?_ ?_
            · skip
              refine wpc_block ?_
              refine wpc_pre2 hmix (fun ρ w => asL (ρ 0) fun d_0 => asP (ρ 5) fun t5 => asL (ρ 6) fun t6 => asI .i64 (ρ 7) fun t7 => asA (ρ 8) fun t8 => trovelaw7_fixed.j8 d_0 t5 t6 t7 t8 Q nx1 w) (Eq.mp (by kernel_rfl) h) ?_
              intro ρ w h
              obtain ⟨d_0, e0, h⟩ := asL_el h
              obtain ⟨t5, e5, h⟩ := asP_el h
              obtain ⟨t6, e6, h⟩ := asL_el h
              obtain ⟨t7, e7, h⟩ := asI_el h
              obtain ⟨t8, e8, h⟩ := asA_el h
              refine reroot e0 (reroot (upd_other e5 rfl) (reroot (upd_other (upd_other e6 rfl) rfl) (reroot (upd_other (upd_other (upd_other e7 rfl) rfl) rfl) (reroot (upd_other (upd_other (upd_other (upd_other e8 rfl) rfl) rfl) rfl) ?_))))
              refine wpc_pre2 hmix (fun ρ w => asL (ρ 0) fun d_0 => asP (ρ 5) fun t5 => asL (ρ 6) fun t6 => asI .i64 (ρ 7) fun t7 => asA (ρ 8) fun t8 => asI .i64 (ρ 9) fun t9 => asI .i64 (ρ 10) fun t10 => asI .i64 (ρ 11) fun t11 => trovelaw7_fixed.j9 d_0 t5 t6 t7 t8 t9 t10 t11 Q nx1 w) (Eq.mp (by kernel_rfl) h) ?_
              intro ρ w h
              obtain ⟨d_0, e0, h⟩ := asL_el h
              obtain ⟨t5, e5, h⟩ := asP_el h
              obtain ⟨t6, e6, h⟩ := asL_el h
              obtain ⟨t7, e7, h⟩ := asI_el h
              obtain ⟨t8, e8, h⟩ := asA_el h
              obtain ⟨t9, e9, h⟩ := asI_el h
              obtain ⟨t10, e10, h⟩ := asI_el h
              obtain ⟨t11, e11, h⟩ := asI_el h
              refine reroot e0 (reroot (upd_other e5 rfl) (reroot (upd_other (upd_other e6 rfl) rfl) (reroot (upd_other (upd_other (upd_other e7 rfl) rfl) rfl) (reroot (upd_other (upd_other (upd_other (upd_other e8 rfl) rfl) rfl) rfl) (reroot (upd_other (upd_other (upd_other (upd_other (upd_other e9 rfl) rfl) rfl) rfl) rfl) (reroot (upd_other (upd_other (upd_other (upd_other (upd_other (upd_other e10 rfl) rfl) rfl) rfl) rfl) rfl) (reroot (upd_other (upd_other (upd_other (upd_other (upd_other (upd_other (upd_other e11 rfl) rfl) rfl) rfl) rfl) rfl) rfl) ?_)))))))
              refine wpc_pre2 hmix (fun ρ w => asL (ρ 0) fun d_0 => asP (ρ 5) fun t5 => asL (ρ 6) fun t6 => asI .i64 (ρ 7) fun t7 => asA (ρ 8) fun t8 => trovelaw7_fixed.j10 d_0 t5 t6 t7 t8 Q nx1 w) (Eq.mp (by kernel_rfl) h) ?_
              intro ρ w h
              obtain ⟨d_0, e0, h⟩ := asL_el h
              obtain ⟨t5, e5, h⟩ := asP_el h
              obtain ⟨t6, e6, h⟩ := asL_el h
              obtain ⟨t7, e7, h⟩ := asI_el h
              obtain ⟨t8, e8, h⟩ := asA_el h
              refine reroot e0 (reroot (upd_other e5 rfl) (reroot (upd_other (upd_other e6 rfl) rfl) (reroot (upd_other (upd_other (upd_other e7 rfl) rfl) rfl) (reroot (upd_other (upd_other (upd_other (upd_other e8 rfl) rfl) rfl) rfl) ?_))))
              refine wpc_pre2 hmix (fun ρ w => asL (ρ 0) fun d_0 => asP (ρ 5) fun t5 => asL (ρ 6) fun t6 => asI .i64 (ρ 7) fun t7 => asA (ρ 8) fun t8 => asI .i64 (ρ 10) fun t10 => asI .i64 (ρ 11) fun t11 => trovelaw7_fixed.j11 d_0 t5 t6 t7 t8 t10 t11 Q nx1 w) (Eq.mp (by kernel_rfl) h) ?_
              intro ρ w h
              obtain ⟨d_0, e0, h⟩ := asL_el h
              obtain ⟨t5, e5, h⟩ := asP_el h
              obtain ⟨t6, e6, h⟩ := asL_el h
              obtain ⟨t7, e7, h⟩ := asI_el h
              obtain ⟨t8, e8, h⟩ := asA_el h
              obtain ⟨t10, e10, h⟩ := asI_el h
              obtain ⟨t11, e11, h⟩ := asI_el h
              refine reroot e0 (reroot (upd_other e5 rfl) (reroot (upd_other (upd_other e6 rfl) rfl) (reroot (upd_other (upd_other (upd_other e7 rfl) rfl) rfl) (reroot (upd_other (upd_other (upd_other (upd_other e8 rfl) rfl) rfl) rfl) (reroot (upd_other (upd_other (upd_other (upd_other (upd_other e10 rfl) rfl) rfl) rfl) rfl) (reroot (upd_other (upd_other (upd_other (upd_other (upd_other (upd_other e11 rfl) rfl) rfl) rfl) rfl) rfl) ?_))))))
              refine wpc_pre2 hmix (fun ρ w => asL (ρ 0) fun d_0 => asP (ρ 5) fun t5 => asL (ρ 6) fun t6 => asI .i64 (ρ 7) fun t7 => asA (ρ 8) fun t8 => asI .i64 (ρ 12) fun t12 => trovelaw7_fixed.j12 d_0 t5 t6 t7 t8 t12 Q nx1 w) (Eq.mp (by kernel_rfl) h) ?_
              intro ρ w h
              obtain ⟨d_0, e0, h⟩ := asL_el h
              obtain ⟨t5, e5, h⟩ := asP_el h
              obtain ⟨t6, e6, h⟩ := asL_el h
              obtain ⟨t7, e7, h⟩ := asI_el h
              obtain ⟨t8, e8, h⟩ := asA_el h
              obtain ⟨t12, e12, h⟩ := asI_el h
              refine reroot e0 (reroot (upd_other e5 rfl) (reroot (upd_other (upd_other e6 rfl) rfl) (reroot (upd_other (upd_other (upd_other e7 rfl) rfl) rfl) (reroot (upd_other (upd_other (upd_other (upd_other e8 rfl) rfl) rfl) rfl) (reroot (upd_other (upd_other (upd_other (upd_other (upd_other e12 rfl) rfl) rfl) rfl) rfl) ?_)))))
              refine wpc_block ?_
              obtain ⟨I, μ, hI, hr⟩ := h
              refine wpc_loopS (α := Sl × Int) (fun s ρ => ρ 6 = .slice s.1.a s.1.len s.1.cap ∧ ρ 12 = .int .i64 s.2 ∧ ρ 0 = .slice d_0.a d_0.len d_0.cap ∧ ρ 5 = .pointer t5 ∧ ρ 7 = .int .i64 t7 ∧ ρ 8 = .pointer (some t8)) (fun s w => I s.1 s.2 w) (fun s w => μ s.1 s.2 w) (t6, t12) ⟨rfl, rfl, rfl, rfl, rfl, rfl⟩ hI ?_
              rintro ⟨t6, t12⟩ ρ w ⟨e6, e12, e0, e5, e7, e8⟩ hI
              have h := hr t6 t12 w hI
              clear hr
              obtain ⟨nx2, hnx⟩ : ∃ nx : Sl → (Option Addr) → Int → Addr → Sl → Int → World → Prop, nx = (fun d_0' t5' t7' t8' t6' t12' w' => (d_0' = d_0 ∧ t5' = t5 ∧ t7' = t7 ∧ t8' = t8) ∧ I t6' t12' w' ∧ μ t6' t12' w' < μ t6 t12 w) := ⟨_, rfl⟩
              rw [← hnx] at h
              refine wpc_norm (M := fun ρ w => asL (ρ 0) fun d_0 => asP (ρ 5) fun t5 => asI .i64 (ρ 7) fun t7 => asA (ρ 8) fun t8 => asL (ρ 6) fun t6 => asI .i64 (ρ 12) fun t12 => nx2 d_0 t5 t7 t8 t6 t12 w) ?_ (fun ρ w h => ?_)
              · skip
                refine reroot e0 (reroot (upd_other e5 rfl) (reroot (upd_other (upd_other e6 rfl) rfl) (reroot (upd_other (upd_other (upd_other e7 rfl) rfl) rfl) (reroot (upd_other (upd_other (upd_other (upd_other e8 rfl) rfl) rfl) rfl) (reroot (upd_other (upd_other (upd_other (upd_other (upd_other e12 rfl) rfl) rfl) rfl) rfl) ?_)))))
                exact pt_sound hmix _ (Eq.mp (by kernel_rfl) h)
              · skip
                obtain ⟨d_0', e0', h⟩ := asL_el h
                obtain ⟨t5', e5', h⟩ := asP_el h
                obtain ⟨t7', e7', h⟩ := asI_el h
                obtain ⟨t8', e8', h⟩ := asA_el h
                obtain ⟨t6', e6', h⟩ := asL_el h
                obtain ⟨t12', e12', h⟩ := asI_el h
                rw [hnx] at h
                obtain ⟨hu, hI2, hμ⟩ := h
                obtain ⟨rfl, rfl, rfl, rfl⟩ := hu
                exact ⟨(t6', t12'), ⟨e6', e12', e0', e5', e7', e8'⟩, hI2, hμ⟩
            · intro ρ w h
              obtain ⟨d_0, e0, h⟩ := asL_el h
              obtain ⟨t5, e5, h⟩ := asP_el h
              obtain ⟨t6, e6, h⟩ := asL_el h
              obtain ⟨t7, e7, h⟩ := asI_el h
              refine reroot e0 (reroot (upd_other e5 rfl) (reroot (upd_other (upd_other e6 rfl) rfl) (reroot (upd_other (upd_other (upd_other e7 rfl) rfl) rfl) ?_)))
              exact pt_sound hmix _ (Eq.mp (by kernel_rfl) h)
        · skip
          obtain ⟨d_0', e0', h⟩ := asL_el h
          obtain ⟨t5', e5', h⟩ := asP_el h
          obtain ⟨t6', e6', h⟩ := asL_el h
          obtain ⟨t7', e7', h⟩ := asI_el h
          rw [hnx] at h
          obtain ⟨hu, hI2, hμ⟩ := h
          obtain ⟨rfl, rfl⟩ := hu
          exact ⟨(t6', t7'), ⟨e6', e7', e0', e5'⟩, hI2, hμ⟩
    · intro ρ w h
      obtain ⟨t5, e5, h⟩ := asP_el h
      obtain ⟨t6, e6, h⟩ := asL_el h
      refine reroot e5 (reroot (upd_other e6 rfl) ?_)
      exact pt_sound hmix _ (Eq.mp (by kernel_rfl) h)

/-! trove/trovelaw7.InflateTables -/
def trovelaw7_InflateTables.j4 (d_0 : Int) (Q : Value → World → Prop) (w : World) : Prop :=
  Calls Try.prog 116 ⟨[.int .i64 d_0]⟩ w fun e1 w2 =>
  ∃ r3 : Int, ∃ r4 : Int, ∃ r5 : Bool, e1 = .returned (.tuple ⟨[.int .i64 r3, .int .i64 r4, .bool r5]⟩) ∧
  Calls Try.prog 117 ⟨[.int .i64 d_0]⟩ w2 fun e6 w7 =>
  ∃ r8 : Int, ∃ r9 : Int, ∃ r10 : Bool, e6 = .returned (.tuple ⟨[.int .i64 r8, .int .i64 r9, .bool r10]⟩) ∧
  Calls Try.prog 118 ⟨[.int .i64 d_0]⟩ w7 fun e11 w12 =>
  ∃ r13 : Int, ∃ r14 : Int, ∃ r15 : Bool, e11 = .returned (.tuple ⟨[.int .i64 r13, .int .i64 r14, .bool r15]⟩) ∧
  Calls Try.prog 119 ⟨[.int .i64 d_0]⟩ w12 fun e16 w17 =>
  ∃ r18 : Int, ∃ r19 : Int, ∃ r20 : Bool, e16 = .returned (.tuple ⟨[.int .i64 r18, .int .i64 r19, .bool r20]⟩) ∧
  br ((r3 : Int) == r8) (
  br ((r4 : Int) == r9) (
  br (r5 == r10) (
  br ((r13 : Int) == r18) (
  br ((r14 : Int) == r19) (
  Q (.bool (r15 == r20)) w17) (
  Q (.bool false) w17)) (
  Q (.bool false) w17)) (
  Q (.bool false) w17)) (
  Q (.bool false) w17)) (
  Q (.bool false) w17)

def trovelaw7_InflateTables.b1 (d_0 : Int) (t3 : Sl) (t4 : Sl) (t5 : Sl) (t6 : Sl) (t7 : Int) (Q : Value → World → Prop) (nx1 : Int → Sl → Sl → Sl → Sl → Int → World → Prop) (w : World) : Prop :=
  br (decide ((t7 : Int) < ((t3.len : Nat) : Int))) (
  lt (World.drew w) fun w21 =>
  ixS t3.a t3.len t7 1 fun a22 =>
  ldI .i64 w21 a22 fun x23 =>
  ixS t5.a t5.len t7 1 fun a24 =>
  ldI .i64 w21 a24 fun x25 =>
  br ((x23 : Int) != x25) (
  Q (.bool false) w21) (
  br (decide ((t7 : Int) < ((t4.len : Nat) : Int))) (
  ixS t4.a t4.len t7 1 fun a26 =>
  ldI .i64 w21 a26 fun x27 =>
  ixS t6.a t6.len t7 1 fun a28 =>
  ldI .i64 w21 a28 fun x29 =>
  br ((x27 : Int) != x29) (
  Q (.bool false) w21) (
  lt (IntKind.i64.wrap (t7 + 1)) fun x30 =>
  nx1 d_0 t3 t4 t5 t6 x30 w21)) (
  lt (IntKind.i64.wrap (t7 + 1)) fun x31 =>
  nx1 d_0 t3 t4 t5 t6 x31 w21))) (
  trovelaw7_InflateTables.j4 d_0 Q w)

def trovelaw7_InflateTables.l1 (d_0 : Int) (t3 : Sl) (t4 : Sl) (t5 : Sl) (t6 : Sl) (t7 : Int) (Q : Value → World → Prop) (w : World) : Prop :=
  ∃ (I : Int → World → Prop) (μ : Int → World → Nat), I t7 w ∧ ∀ t7 : Int, ∀ w : World, I t7 w → trovelaw7_InflateTables.b1 d_0 t3 t4 t5 t6 t7 Q (fun d_0' t3' t4' t5' t6' t7' w' => (d_0' = d_0 ∧ t3' = t3 ∧ t4' = t4 ∧ t5' = t5 ∧ t6' = t6) ∧ I t7' w' ∧ μ t7' w' < μ t7 w) w

def trovelaw7_InflateTables.j5 (d_0 : Int) (t3 : Sl) (t4 : Sl) (t5 : Sl) (t6 : Sl) (t7 : Int) (Q : Value → World → Prop) (w : World) : Prop :=
  trovelaw7_InflateTables.l1 d_0 t3 t4 t5 t6 t7 Q w

def trovelaw7_InflateTables.j3 (d_0 : Int) (t3 : Sl) (t4 : Sl) (t5 : Sl) (t6 : Sl) (Q : Value → World → Prop) (w : World) : Prop :=
  trovelaw7_InflateTables.j5 d_0 t3 t4 t5 t6 0 Q w

def trovelaw7_InflateTables.j2 (d_0 : Int) (t3 : Sl) (t4 : Sl) (Q : Value → World → Prop) (w : World) : Prop :=
  Calls Try.prog 115 ⟨[]⟩ w fun e32 w33 =>
  ∃ r34 : Sl, ∃ r35 : Sl, e32 = .returned (.tuple ⟨[.slice r34.a r34.len r34.cap, .slice r35.a r35.len r35.cap]⟩) ∧
  br ((((t3.len : Nat) : Int) : Int) != ((r34.len : Nat) : Int)) (
  Q (.bool false) w33) (
  br ((((t4.len : Nat) : Int) : Int) != ((r35.len : Nat) : Int)) (
  Q (.bool false) w33) (
  trovelaw7_InflateTables.j3 d_0 t3 t4 r34 r35 Q w33))

def trovelaw7_InflateTables.j1 (d_0 : Int) (Q : Value → World → Prop) (w : World) : Prop :=
  Calls Try.prog 113 ⟨[]⟩ w fun e36 w37 =>
  ∃ r38 : Bool, e36 = .returned (.bool r38) ∧
  br (!r38) (
  Q (.bool false) w37) (
  Calls Try.prog 114 ⟨[]⟩ w37 fun e39 w40 =>
  ∃ r41 : Sl, ∃ r42 : Sl, e39 = .returned (.tuple ⟨[.slice r41.a r41.len r41.cap, .slice r42.a r42.len r42.cap]⟩) ∧
  trovelaw7_InflateTables.j2 d_0 r41 r42 Q w40)

def trovelaw7_InflateTables (d_0 : Int) (Q : Value → World → Prop) (w : World) : Prop :=
  trovelaw7_InflateTables.j1 d_0 Q w

theorem trovelaw7_InflateTables.ok (d_0 : Int) (Q : Value → World → Prop) (w : World) (h : trovelaw7_InflateTables d_0 Q w) : Calls Try.prog 27 ⟨[.int .i64 d_0]⟩ w (Ret Q) := by
  refine calls_of_wpc [.tmp 2] Try.func27 rfl rfl rfl rfl ?_
  refine wpc_seq (fun ρ w => asI .i64 (ρ 0) fun d_0 => trovelaw7_InflateTables.j1 d_0 Q w) ?_ ?_
  · skip
    exact pt_sound hmix _ (Eq.mp (by kernel_rfl) h)
  · intro ρ w h
    obtain ⟨d_0, e0, h⟩ := asI_el h
    refine reroot e0 ?_
    refine wpc_pre2 hmix (fun ρ w => asI .i64 (ρ 0) fun d_0 => asL (ρ 3) fun t3 => asL (ρ 4) fun t4 => trovelaw7_InflateTables.j2 d_0 t3 t4 Q w) (Eq.mp (by kernel_rfl) h) ?_
    intro ρ w h
    obtain ⟨d_0, e0, h⟩ := asI_el h
    obtain ⟨t3, e3, h⟩ := asL_el h
    obtain ⟨t4, e4, h⟩ := asL_el h
    refine reroot e0 (reroot (upd_other e3 rfl) (reroot (upd_other (upd_other e4 rfl) rfl) ?_))
    refine wpc_pre2 hmix (fun ρ w => asI .i64 (ρ 0) fun d_0 => asL (ρ 3) fun t3 => asL (ρ 4) fun t4 => asL (ρ 5) fun t5 => asL (ρ 6) fun t6 => trovelaw7_InflateTables.j3 d_0 t3 t4 t5 t6 Q w) (Eq.mp (by kernel_rfl) h) ?_
    intro ρ w h
    obtain ⟨d_0, e0, h⟩ := asI_el h
    obtain ⟨t3, e3, h⟩ := asL_el h
    obtain ⟨t4, e4, h⟩ := asL_el h
    obtain ⟨t5, e5, h⟩ := asL_el h
    obtain ⟨t6, e6, h⟩ := asL_el h
    refine reroot e0 (reroot (upd_other e3 rfl) (reroot (upd_other (upd_other e4 rfl) rfl) (reroot (upd_other (upd_other (upd_other e5 rfl) rfl) rfl) (reroot (upd_other (upd_other (upd_other (upd_other e6 rfl) rfl) rfl) rfl) ?_))))
    refine wpc_seq (fun ρ w => asI .i64 (ρ 0) fun d_0 => trovelaw7_InflateTables.j4 d_0 Q w) ?_ ?_
    · skip
      refine wpc_seq (fun ρ w => asI .i64 (ρ 0) fun d_0 => asL (ρ 3) fun t3 => asL (ρ 4) fun t4 => asL (ρ 5) fun t5 => asL (ρ 6) fun t6 => asI .i64 (ρ 7) fun t7 => trovelaw7_InflateTables.j5 d_0 t3 t4 t5 t6 t7 Q w) ?_ ?_
      · skip
        exact pt_sound hmix _ (Eq.mp (by kernel_rfl) h)
      · intro ρ w h
        obtain ⟨d_0, e0, h⟩ := asI_el h
        obtain ⟨t3, e3, h⟩ := asL_el h
        obtain ⟨t4, e4, h⟩ := asL_el h
        obtain ⟨t5, e5, h⟩ := asL_el h
        obtain ⟨t6, e6, h⟩ := asL_el h
        obtain ⟨t7, e7, h⟩ := asI_el h
        refine reroot e0 (reroot (upd_other e3 rfl) (reroot (upd_other (upd_other e4 rfl) rfl) (reroot (upd_other (upd_other (upd_other e5 rfl) rfl) rfl) (reroot (upd_other (upd_other (upd_other (upd_other e6 rfl) rfl) rfl) rfl) (reroot (upd_other (upd_other (upd_other (upd_other (upd_other e7 rfl) rfl) rfl) rfl) rfl) ?_)))))
        refine wpc_block ?_
        obtain ⟨I, μ, hI, hr⟩ := h
        refine wpc_loopS (α := Int) (fun s ρ => ρ 7 = .int .i64 s ∧ ρ 0 = .int .i64 d_0 ∧ ρ 3 = .slice t3.a t3.len t3.cap ∧ ρ 4 = .slice t4.a t4.len t4.cap ∧ ρ 5 = .slice t5.a t5.len t5.cap ∧ ρ 6 = .slice t6.a t6.len t6.cap) (fun s w => I s w) (fun s w => μ s w) t7 ⟨rfl, rfl, rfl, rfl, rfl, rfl⟩ hI ?_
        rintro t7 ρ w ⟨e7, e0, e3, e4, e5, e6⟩ hI
        have h := hr t7 w hI
        clear hr
        obtain ⟨nx1, hnx⟩ : ∃ nx : Int → Sl → Sl → Sl → Sl → Int → World → Prop, nx = (fun d_0' t3' t4' t5' t6' t7' w' => (d_0' = d_0 ∧ t3' = t3 ∧ t4' = t4 ∧ t5' = t5 ∧ t6' = t6) ∧ I t7' w' ∧ μ t7' w' < μ t7 w) := ⟨_, rfl⟩
        rw [← hnx] at h
        refine wpc_norm (M := fun ρ w => asI .i64 (ρ 0) fun d_0 => asL (ρ 3) fun t3 => asL (ρ 4) fun t4 => asL (ρ 5) fun t5 => asL (ρ 6) fun t6 => asI .i64 (ρ 7) fun t7 => nx1 d_0 t3 t4 t5 t6 t7 w) ?_ (fun ρ w h => ?_)
        · skip
          refine reroot e0 (reroot (upd_other e3 rfl) (reroot (upd_other (upd_other e4 rfl) rfl) (reroot (upd_other (upd_other (upd_other e5 rfl) rfl) rfl) (reroot (upd_other (upd_other (upd_other (upd_other e6 rfl) rfl) rfl) rfl) (reroot (upd_other (upd_other (upd_other (upd_other (upd_other e7 rfl) rfl) rfl) rfl) rfl) ?_)))))
          exact pt_sound hmix _ (Eq.mp (by kernel_rfl) h)
        · skip
          obtain ⟨d_0', e0', h⟩ := asI_el h
          obtain ⟨t3', e3', h⟩ := asL_el h
          obtain ⟨t4', e4', h⟩ := asL_el h
          obtain ⟨t5', e5', h⟩ := asL_el h
          obtain ⟨t6', e6', h⟩ := asL_el h
          obtain ⟨t7', e7', h⟩ := asI_el h
          rw [hnx] at h
          obtain ⟨hu, hI2, hμ⟩ := h
          obtain ⟨rfl, rfl, rfl, rfl, rfl⟩ := hu
          exact ⟨t7', ⟨e7', e0', e3', e4', e5', e6'⟩, hI2, hμ⟩
    · intro ρ w h
      obtain ⟨d_0, e0, h⟩ := asI_el h
      refine reroot e0 ?_
      exact pt_sound hmix _ (Eq.mp (by kernel_rfl) h)

/-! trove/trovelaw7.InflateMade -/
def trovelaw7_InflateMade (l_0 : Sl) (Q : Value → World → Prop) (w : World) : Prop :=
  Calls Try.prog 113 ⟨[]⟩ w fun e1 w2 =>
  ∃ r3 : Bool, e1 = .returned (.bool r3) ∧
  br (!r3) (
  Q (.bool false) w2) (
  br (decide ((((l_0.len : Nat) : Int) : Int) > 100)) (
  Q (.bool true) w2) (
  Calls Try.prog 120 ⟨[.slice l_0.a l_0.len l_0.cap]⟩ w2 fun e4 w5 =>
  ∃ r6 : Sl, ∃ r7 : Sl, ∃ r8 : Bool, e4 = .returned (.tuple ⟨[.slice r6.a r6.len r6.cap, .slice r7.a r7.len r7.cap, .bool r8]⟩) ∧
  br (!r8) (
  Q (.bool true) w5) (
  Calls Try.prog 121 ⟨[.slice r6.a r6.len r6.cap, .int .i64 ((r7.len : Nat) : Int)]⟩ w5 fun e9 w10 =>
  ∃ r11 : Sl, ∃ r12 : Int, ∃ r13 : Int, e9 = .returned (.tuple ⟨[.slice r11.a r11.len r11.cap, .int .i64 r12, .int .i64 r13]⟩) ∧
  br ((r13 : Int) != 0) (
  Q (.bool false) w10) (
  btS w10 r11.a r11.len fun x14 =>
  btS w10 r7.a r7.len fun x15 =>
  br (!(ByteArray.toList x14 == ByteArray.toList x15)) (
  Q (.bool false) w10) (
  br ((r12 : Int) != ((r6.len : Nat) : Int)) (
  Q (.bool false) w10) (
  br ((((r7.len : Nat) : Int) : Int) == 0) (
  Q (.bool true) w10) (
  lt (IntKind.i64.wrap (((r7.len : Nat) : Int) - 1)) fun x16 =>
  Calls Try.prog 121 ⟨[.slice r6.a r6.len r6.cap, .int .i64 x16]⟩ w10 fun e17 w18 =>
  ∃ r19 : Sl, ∃ r20 : Int, ∃ r21 : Int, e17 = .returned (.tuple ⟨[.slice r19.a r19.len r19.cap, .int .i64 r20, .int .i64 r21]⟩) ∧
  Q (.bool ((r21 : Int) == 5)) w18)))))))

theorem trovelaw7_InflateMade.ok (l_0 : Sl) (Q : Value → World → Prop) (w : World) (h : trovelaw7_InflateMade l_0 Q w) : Calls Try.prog 28 ⟨[.slice l_0.a l_0.len l_0.cap]⟩ w (Ret Q) := by
  refine calls_of_wpc [.tmp 2] Try.func28 rfl rfl rfl rfl ?_
  exact pt_sound hmix _ (Eq.mp (by kernel_rfl) h)

/-! trove/trovelaw7.InflateStored -/
def trovelaw7_InflateStored.j6 (t5 : (Option Addr)) (t6 : Sl) (t11 : Sl) (t12 : Int) (t13 : Int) (Q : Value → World → Prop) (w : World) : Prop :=
  br ((t13 : Int) == 0) (
  btS w t11.a t11.len fun x1 =>
  btS w t6.a t6.len fun x2 =>
  br (ByteArray.toList x1 == ByteArray.toList x2) (
  Calls Try.prog 49 ⟨[.pointer t5]⟩ w fun e3 w4 =>
  ∃ r5 : Sl, e3 = .returned (.slice r5.a r5.len r5.cap) ∧
  Q (.bool ((t12 : Int) == ((r5.len : Nat) : Int))) w4) (
  Q (.bool false) w)) (
  Q (.bool false) w)

def trovelaw7_InflateStored.j7 (t5 : (Option Addr)) (t6 : Sl) (t11 : Sl) (t12 : Int) (t13 : Int) (t110 : Bool) (Q : Value → World → Prop) (w : World) : Prop :=
  br t110 (
  br ((t13 : Int) == 2) (
  Q (.bool ((((t11.len : Nat) : Int) : Int) == 0)) w) (
  Q (.bool false) w)) (
  trovelaw7_InflateStored.j6 t5 t6 t11 t12 t13 Q w)

def trovelaw7_InflateStored.j5 (d_0 : Sl) (i_1 : Int) (t5 : (Option Addr)) (t6 : Sl) (t11 : Sl) (t12 : Int) (t13 : Int) (Q : Value → World → Prop) (w : World) : Prop :=
  br (decide ((i_1 : Int) ≥ 0)) (
  trovelaw7_InflateStored.j7 t5 t6 t11 t12 t13 (decide ((i_1 : Int) < ((d_0.len : Nat) : Int))) Q w) (
  trovelaw7_InflateStored.j7 t5 t6 t11 t12 t13 false Q w)

def trovelaw7_InflateStored.j4 (d_0 : Sl) (i_1 : Int) (t5 : (Option Addr)) (t6 : Sl) (Q : Value → World → Prop) (w : World) : Prop :=
  Calls Try.prog 49 ⟨[.pointer t5]⟩ w fun e6 w7 =>
  ∃ r8 : Sl, e6 = .returned (.slice r8.a r8.len r8.cap) ∧
  Calls Try.prog 121 ⟨[.slice r8.a r8.len r8.cap, .int .i64 5000]⟩ w7 fun e9 w10 =>
  ∃ r11 : Sl, ∃ r12 : Int, ∃ r13 : Int, e9 = .returned (.tuple ⟨[.slice r11.a r11.len r11.cap, .int .i64 r12, .int .i64 r13]⟩) ∧
  trovelaw7_InflateStored.j5 d_0 i_1 t5 t6 r11 r12 r13 Q w10

def trovelaw7_InflateStored.j10 (d_0 : Sl) (i_1 : Int) (t5 : (Option Addr)) (t6 : Sl) (t7 : Int) (Q : Value → World → Prop) (nx1 : Sl → Int → (Option Addr) → Sl → Int → World → Prop) (w : World) : Prop :=
  lt (IntKind.i64.wrap (t7 + 1)) fun x14 =>
  nx1 d_0 i_1 t5 t6 x14 w

def trovelaw7_InflateStored.j17 (d_0 : Sl) (i_1 : Int) (t5 : (Option Addr)) (t6 : Sl) (t7 : Int) (Q : Value → World → Prop) (nx1 : Sl → Int → (Option Addr) → Sl → Int → World → Prop) (w : World) : Prop :=
  ixS d_0.a d_0.len t7 1 fun a15 =>
  ldL w a15 fun x16 =>
  rdO w x16.a (x16.len * 1) fun c17 =>
  apK Try.prog 5 w t6.a t6.len t6.cap x16.len c17 fun s18 w19 =>
  trovelaw7_InflateStored.j10 d_0 i_1 t5 s18 t7 Q nx1 w19

def trovelaw7_InflateStored.b2 (d_0 : Sl) (i_1 : Int) (t5 : (Option Addr)) (t6 : Sl) (t7 : Int) (t10 : Int) (Q : Value → World → Prop) (nx1 : Sl → Int → (Option Addr) → Sl → Int → World → Prop) (nx2 : Sl → Int → (Option Addr) → Sl → Int → Int → World → Prop) (w : World) : Prop :=
  ixS d_0.a d_0.len t7 1 fun a20 =>
  ldL w a20 fun x21 =>
  br (decide ((t10 : Int) < ((x21.len : Nat) : Int))) (
  ixS d_0.a d_0.len t7 1 fun a22 =>
  ldL w a22 fun x23 =>
  ixS x23.a x23.len t10 1 fun a24 =>
  ldI .u8 w a24 fun x25 =>
  lt (IntKind.i64.wrap x25) fun x26 =>
  Calls Try.prog 42 ⟨[.pointer t5, .int .i64 x26, .int .i64 8]⟩ w fun e27 w28 =>
  e27 = .returned (.tuple ⟨[]⟩) ∧
  lt (IntKind.i64.wrap (t10 + 1)) fun x29 =>
  nx2 d_0 i_1 t5 t6 t7 x29 w28) (
  trovelaw7_InflateStored.j17 d_0 i_1 t5 t6 t7 Q nx1 w)

def trovelaw7_InflateStored.l2 (d_0 : Sl) (i_1 : Int) (t5 : (Option Addr)) (t6 : Sl) (t7 : Int) (t10 : Int) (Q : Value → World → Prop) (nx1 : Sl → Int → (Option Addr) → Sl → Int → World → Prop) (w : World) : Prop :=
  ∃ (I : Int → World → Prop) (μ : Int → World → Nat), I t10 w ∧ ∀ t10 : Int, ∀ w : World, I t10 w → trovelaw7_InflateStored.b2 d_0 i_1 t5 t6 t7 t10 Q nx1 (fun d_0' i_1' t5' t6' t7' t10' w' => (d_0' = d_0 ∧ i_1' = i_1 ∧ t5' = t5 ∧ t6' = t6 ∧ t7' = t7) ∧ I t10' w' ∧ μ t10' w' < μ t10 w) w

def trovelaw7_InflateStored.j18 (d_0 : Sl) (i_1 : Int) (t5 : (Option Addr)) (t6 : Sl) (t7 : Int) (t10 : Int) (Q : Value → World → Prop) (nx1 : Sl → Int → (Option Addr) → Sl → Int → World → Prop) (w : World) : Prop :=
  trovelaw7_InflateStored.l2 d_0 i_1 t5 t6 t7 t10 Q nx1 w

def trovelaw7_InflateStored.j16 (d_0 : Sl) (i_1 : Int) (t5 : (Option Addr)) (t6 : Sl) (t7 : Int) (Q : Value → World → Prop) (nx1 : Sl → Int → (Option Addr) → Sl → Int → World → Prop) (w : World) : Prop :=
  trovelaw7_InflateStored.j18 d_0 i_1 t5 t6 t7 0 Q nx1 w

def trovelaw7_InflateStored.j15 (d_0 : Sl) (i_1 : Int) (t5 : (Option Addr)) (t6 : Sl) (t7 : Int) (t9 : Int) (Q : Value → World → Prop) (nx1 : Sl → Int → (Option Addr) → Sl → Int → World → Prop) (w : World) : Prop :=
  Calls Try.prog 42 ⟨[.pointer t5, .int .i64 t9, .int .i64 16]⟩ w fun e30 w31 =>
  e30 = .returned (.tuple ⟨[]⟩) ∧
  trovelaw7_InflateStored.j16 d_0 i_1 t5 t6 t7 Q nx1 w31

def trovelaw7_InflateStored.j14 (d_0 : Sl) (i_1 : Int) (t5 : (Option Addr)) (t6 : Sl) (t7 : Int) (Q : Value → World → Prop) (nx1 : Sl → Int → (Option Addr) → Sl → Int → World → Prop) (w : World) : Prop :=
  ixS d_0.a d_0.len t7 1 fun a32 =>
  ldL w a32 fun x33 =>
  lt (xorV .i64 65535 ((x33.len : Nat) : Int)) fun x34 =>
  br ((t7 : Int) == i_1) (
  lt (xorV .i64 x34 1) fun x35 =>
  trovelaw7_InflateStored.j15 d_0 i_1 t5 t6 t7 x35 Q nx1 w) (
  trovelaw7_InflateStored.j15 d_0 i_1 t5 t6 t7 x34 Q nx1 w)

def trovelaw7_InflateStored.j13 (d_0 : Sl) (i_1 : Int) (t5 : (Option Addr)) (t6 : Sl) (t7 : Int) (Q : Value → World → Prop) (nx1 : Sl → Int → (Option Addr) → Sl → Int → World → Prop) (w : World) : Prop :=
  Calls Try.prog 47 ⟨[.pointer t5]⟩ w fun e36 w37 =>
  e36 = .returned (.tuple ⟨[]⟩) ∧
  ixS d_0.a d_0.len t7 1 fun a38 =>
  ldL w37 a38 fun x39 =>
  Calls Try.prog 42 ⟨[.pointer t5, .int .i64 ((x39.len : Nat) : Int), .int .i64 16]⟩ w37 fun e40 w41 =>
  e40 = .returned (.tuple ⟨[]⟩) ∧
  trovelaw7_InflateStored.j14 d_0 i_1 t5 t6 t7 Q nx1 w41

def trovelaw7_InflateStored.j12 (d_0 : Sl) (i_1 : Int) (t5 : (Option Addr)) (t6 : Sl) (t7 : Int) (t8 : Int) (Q : Value → World → Prop) (nx1 : Sl → Int → (Option Addr) → Sl → Int → World → Prop) (w : World) : Prop :=
  Calls Try.prog 42 ⟨[.pointer t5, .int .i64 t8, .int .i64 1]⟩ w fun e42 w43 =>
  e42 = .returned (.tuple ⟨[]⟩) ∧
  Calls Try.prog 42 ⟨[.pointer t5, .int .i64 0, .int .i64 2]⟩ w43 fun e44 w45 =>
  e44 = .returned (.tuple ⟨[]⟩) ∧
  trovelaw7_InflateStored.j13 d_0 i_1 t5 t6 t7 Q nx1 w45

def trovelaw7_InflateStored.j11 (d_0 : Sl) (i_1 : Int) (t5 : (Option Addr)) (t6 : Sl) (t7 : Int) (Q : Value → World → Prop) (nx1 : Sl → Int → (Option Addr) → Sl → Int → World → Prop) (w : World) : Prop :=
  lt (IntKind.i64.wrap (((d_0.len : Nat) : Int) - 1)) fun x46 =>
  br ((t7 : Int) == x46) (
  trovelaw7_InflateStored.j12 d_0 i_1 t5 t6 t7 1 Q nx1 w) (
  trovelaw7_InflateStored.j12 d_0 i_1 t5 t6 t7 0 Q nx1 w)

def trovelaw7_InflateStored.j9 (d_0 : Sl) (i_1 : Int) (t5 : (Option Addr)) (t6 : Sl) (t7 : Int) (Q : Value → World → Prop) (nx1 : Sl → Int → (Option Addr) → Sl → Int → World → Prop) (w : World) : Prop :=
  ixS d_0.a d_0.len t7 1 fun a47 =>
  ldL w a47 fun x48 =>
  br (decide ((((x48.len : Nat) : Int) : Int) > 200)) (
  Q (.bool true) w) (
  trovelaw7_InflateStored.j11 d_0 i_1 t5 t6 t7 Q nx1 w)

def trovelaw7_InflateStored.b1 (d_0 : Sl) (i_1 : Int) (t5 : (Option Addr)) (t6 : Sl) (t7 : Int) (Q : Value → World → Prop) (nx1 : Sl → Int → (Option Addr) → Sl → Int → World → Prop) (w : World) : Prop :=
  br (decide ((t7 : Int) < ((d_0.len : Nat) : Int))) (
  trovelaw7_InflateStored.j9 d_0 i_1 t5 t6 t7 Q nx1 w) (
  trovelaw7_InflateStored.j4 d_0 i_1 t5 t6 Q w)

def trovelaw7_InflateStored.l1 (d_0 : Sl) (i_1 : Int) (t5 : (Option Addr)) (t6 : Sl) (t7 : Int) (Q : Value → World → Prop) (w : World) : Prop :=
  ∃ (I : Sl → Int → World → Prop) (μ : Sl → Int → World → Nat), I t6 t7 w ∧ ∀ t6 : Sl, ∀ t7 : Int, ∀ w : World, I t6 t7 w → trovelaw7_InflateStored.b1 d_0 i_1 t5 t6 t7 Q (fun d_0' i_1' t5' t6' t7' w' => (d_0' = d_0 ∧ i_1' = i_1 ∧ t5' = t5) ∧ I t6' t7' w' ∧ μ t6' t7' w' < μ t6 t7 w) w

def trovelaw7_InflateStored.j8 (d_0 : Sl) (i_1 : Int) (t5 : (Option Addr)) (t6 : Sl) (t7 : Int) (Q : Value → World → Prop) (w : World) : Prop :=
  trovelaw7_InflateStored.l1 d_0 i_1 t5 t6 t7 Q w

def trovelaw7_InflateStored.j3 (d_0 : Sl) (i_1 : Int) (t5 : (Option Addr)) (t6 : Sl) (Q : Value → World → Prop) (w : World) : Prop :=
  trovelaw7_InflateStored.j8 d_0 i_1 t5 t6 0 Q w

def trovelaw7_InflateStored.j2 (d_0 : Sl) (i_1 : Int) (Q : Value → World → Prop) (w : World) : Prop :=
  lt (⟨World.heapSize w, 0, none⟩ : Addr) fun a49 =>
  lt (World.alloc w (.cells (⟨[.slice none 0 0]⟩ : Array Value) 42)) fun w50 =>
  trovelaw7_InflateStored.j3 d_0 i_1 (some a49) ⟨none, 0, 0⟩ Q w50

def trovelaw7_InflateStored.j1 (d_0 : Sl) (i_1 : Int) (Q : Value → World → Prop) (w : World) : Prop :=
  Calls Try.prog 113 ⟨[]⟩ w fun e51 w52 =>
  ∃ r53 : Bool, e51 = .returned (.bool r53) ∧
  br (!r53) (
  Q (.bool false) w52) (
  br ((((d_0.len : Nat) : Int) : Int) == 0) (
  Q (.bool true) w52) (
  br (decide ((((d_0.len : Nat) : Int) : Int) > 20)) (
  Q (.bool true) w52) (
  trovelaw7_InflateStored.j2 d_0 i_1 Q w52)))

def trovelaw7_InflateStored (d_0 : Sl) (i_1 : Int) (Q : Value → World → Prop) (w : World) : Prop :=
  trovelaw7_InflateStored.j1 d_0 i_1 Q w

theorem trovelaw7_InflateStored.ok (d_0 : Sl) (i_1 : Int) (Q : Value → World → Prop) (w : World) (h : trovelaw7_InflateStored d_0 i_1 Q w) : Calls Try.prog 29 ⟨[.slice d_0.a d_0.len d_0.cap, .int .i64 i_1]⟩ w (Ret Q) := by
  refine calls_of_wpc [.tmp 4] Try.func29 rfl rfl rfl rfl ?_
  refine wpc_seq (fun ρ w => asL (ρ 0) fun d_0 => asI .i64 (ρ 1) fun i_1 => trovelaw7_InflateStored.j1 d_0 i_1 Q w) ?_ ?_
  · skip
    exact pt_sound hmix _ (Eq.mp (by kernel_rfl) h)
  · intro ρ w h
    obtain ⟨d_0, e0, h⟩ := asL_el h
    obtain ⟨i_1, e1, h⟩ := asI_el h
    refine reroot e0 (reroot (upd_other e1 rfl) ?_)
    refine wpc_pre2 hmix (fun ρ w => asL (ρ 0) fun d_0 => asI .i64 (ρ 1) fun i_1 => trovelaw7_InflateStored.j2 d_0 i_1 Q w) (Eq.mp (by kernel_rfl) h) ?_
    intro ρ w h
    obtain ⟨d_0, e0, h⟩ := asL_el h
    obtain ⟨i_1, e1, h⟩ := asI_el h
    refine reroot e0 (reroot (upd_other e1 rfl) ?_)
    refine wpc_pre2 hmix (fun ρ w => asL (ρ 0) fun d_0 => asI .i64 (ρ 1) fun i_1 => asP (ρ 5) fun t5 => asL (ρ 6) fun t6 => trovelaw7_InflateStored.j3 d_0 i_1 t5 t6 Q w) (Eq.mp (by kernel_rfl) h) ?_
    intro ρ w h
    obtain ⟨d_0, e0, h⟩ := asL_el h
    obtain ⟨i_1, e1, h⟩ := asI_el h
    obtain ⟨t5, e5, h⟩ := asP_el h
    obtain ⟨t6, e6, h⟩ := asL_el h
    refine reroot e0 (reroot (upd_other e1 rfl) (reroot (upd_other (upd_other e5 rfl) rfl) (reroot (upd_other (upd_other (upd_other e6 rfl) rfl) rfl) ?_)))
    refine wpc_seq (fun ρ w => asL (ρ 0) fun d_0 => asI .i64 (ρ 1) fun i_1 => asP (ρ 5) fun t5 => asL (ρ 6) fun t6 => trovelaw7_InflateStored.j4 d_0 i_1 t5 t6 Q w) ?_ ?_
    · skip
      refine wpc_seq (fun ρ w => asL (ρ 0) fun d_0 => asI .i64 (ρ 1) fun i_1 => asP (ρ 5) fun t5 => asL (ρ 6) fun t6 => asI .i64 (ρ 7) fun t7 => trovelaw7_InflateStored.j8 d_0 i_1 t5 t6 t7 Q w) ?_ ?_
      · skip
        exact pt_sound hmix _ (Eq.mp (by kernel_rfl) h)
      · intro ρ w h
        obtain ⟨d_0, e0, h⟩ := asL_el h
        obtain ⟨i_1, e1, h⟩ := asI_el h
        obtain ⟨t5, e5, h⟩ := asP_el h
        obtain ⟨t6, e6, h⟩ := asL_el h
        obtain ⟨t7, e7, h⟩ := asI_el h
        refine reroot e0 (reroot (upd_other e1 rfl) (reroot (upd_other (upd_other e5 rfl) rfl) (reroot (upd_other (upd_other (upd_other e6 rfl) rfl) rfl) (reroot (upd_other (upd_other (upd_other (upd_other e7 rfl) rfl) rfl) rfl) ?_))))
        refine wpc_block ?_
        obtain ⟨I, μ, hI, hr⟩ := h
        refine wpc_loopS (α := Sl × Int) (fun s ρ => ρ 6 = .slice s.1.a s.1.len s.1.cap ∧ ρ 7 = .int .i64 s.2 ∧ ρ 0 = .slice d_0.a d_0.len d_0.cap ∧ ρ 1 = .int .i64 i_1 ∧ ρ 5 = .pointer t5) (fun s w => I s.1 s.2 w) (fun s w => μ s.1 s.2 w) (t6, t7) ⟨rfl, rfl, rfl, rfl, rfl⟩ hI ?_
        rintro ⟨t6, t7⟩ ρ w ⟨e6, e7, e0, e1, e5⟩ hI
        have h := hr t6 t7 w hI
        clear hr
        obtain ⟨nx1, hnx⟩ : ∃ nx : Sl → Int → (Option Addr) → Sl → Int → World → Prop, nx = (fun d_0' i_1' t5' t6' t7' w' => (d_0' = d_0 ∧ i_1' = i_1 ∧ t5' = t5) ∧ I t6' t7' w' ∧ μ t6' t7' w' < μ t6 t7 w) := ⟨_, rfl⟩
        rw [← hnx] at h
        refine wpc_norm (M := fun ρ w => asL (ρ 0) fun d_0 => asI .i64 (ρ 1) fun i_1 => asP (ρ 5) fun t5 => asL (ρ 6) fun t6 => asI .i64 (ρ 7) fun t7 => nx1 d_0 i_1 t5 t6 t7 w) ?_ (fun ρ w h => ?_)
        · skip
          refine reroot e0 (reroot (upd_other e1 rfl) (reroot (upd_other (upd_other e5 rfl) rfl) (reroot (upd_other (upd_other (upd_other e6 rfl) rfl) rfl) (reroot (upd_other (upd_other (upd_other (upd_other e7 rfl) rfl) rfl) rfl) ?_))))
          refine wpc_seq (fun ρ w => asL (ρ 0) fun d_0 => asI .i64 (ρ 1) fun i_1 => asP (ρ 5) fun t5 => asL (ρ 6) fun t6 => asI .i64 (ρ 7) fun t7 => trovelaw7_InflateStored.j9 d_0 i_1 t5 t6 t7 Q nx1 w) ?_ ?_
          · skip
            exact pt_sound hmix _ (Eq.mp (by kernel_rfl) h)
          · intro ρ w h
            obtain ⟨d_0, e0, h⟩ := asL_el h
            obtain ⟨i_1, e1, h⟩ := asI_el h
            obtain ⟨t5, e5, h⟩ := asP_el h
            obtain ⟨t6, e6, h⟩ := asL_el h
            obtain ⟨t7, e7, h⟩ := asI_el h
            refine reroot e0 (reroot (upd_other e1 rfl) (reroot (upd_other (upd_other e5 rfl) rfl) (reroot (upd_other (upd_other (upd_other e6 rfl) rfl) rfl) (reroot (upd_other (upd_other (upd_other (upd_other e7 rfl) rfl) rfl) rfl) ?_))))
            refine wpc_seq (fun ρ w => asL (ρ 0) fun d_0 => asI .i64 (ρ 1) fun i_1 => asP (ρ 5) fun t5 => asL (ρ 6) fun t6 => asI .i64 (ρ 7) fun t7 => trovelaw7_InflateStored.j10 d_0 i_1 t5 t6 t7 Q nx1 w) ?_ ?_
            · skip
              refine wpc_block ?_
              refine wpc_seq (fun ρ w => asL (ρ 0) fun d_0 => asI .i64 (ρ 1) fun i_1 => asP (ρ 5) fun t5 => asL (ρ 6) fun t6 => asI .i64 (ρ 7) fun t7 => trovelaw7_InflateStored.j11 d_0 i_1 t5 t6 t7 Q nx1 w) ?_ ?_
              · skip
                exact pt_sound hmix _ (Eq.mp (by kernel_rfl) h)
              · intro ρ w h
                obtain ⟨d_0, e0, h⟩ := asL_el h
                obtain ⟨i_1, e1, h⟩ := asI_el h
                obtain ⟨t5, e5, h⟩ := asP_el h
                obtain ⟨t6, e6, h⟩ := asL_el h
                obtain ⟨t7, e7, h⟩ := asI_el h
                refine reroot e0 (reroot (upd_other e1 rfl) (reroot (upd_other (upd_other e5 rfl) rfl) (reroot (upd_other (upd_other (upd_other e6 rfl) rfl) rfl) (reroot (upd_other (upd_other (upd_other (upd_other e7 rfl) rfl) rfl) rfl) ?_))))
                refine wpc_pre2 hmix (fun ρ w => asL (ρ 0) fun d_0 => asI .i64 (ρ 1) fun i_1 => asP (ρ 5) fun t5 => asL (ρ 6) fun t6 => asI .i64 (ρ 7) fun t7 => asI .i64 (ρ 8) fun t8 => trovelaw7_InflateStored.j12 d_0 i_1 t5 t6 t7 t8 Q nx1 w) (Eq.mp (by kernel_rfl) h) ?_
                intro ρ w h
                obtain ⟨d_0, e0, h⟩ := asL_el h
                obtain ⟨i_1, e1, h⟩ := asI_el h
                obtain ⟨t5, e5, h⟩ := asP_el h
                obtain ⟨t6, e6, h⟩ := asL_el h
                obtain ⟨t7, e7, h⟩ := asI_el h
                obtain ⟨t8, e8, h⟩ := asI_el h
                refine reroot e0 (reroot (upd_other e1 rfl) (reroot (upd_other (upd_other e5 rfl) rfl) (reroot (upd_other (upd_other (upd_other e6 rfl) rfl) rfl) (reroot (upd_other (upd_other (upd_other (upd_other e7 rfl) rfl) rfl) rfl) (reroot (upd_other (upd_other (upd_other (upd_other (upd_other e8 rfl) rfl) rfl) rfl) rfl) ?_)))))
                refine wpc_pre2 hmix (fun ρ w => asL (ρ 0) fun d_0 => asI .i64 (ρ 1) fun i_1 => asP (ρ 5) fun t5 => asL (ρ 6) fun t6 => asI .i64 (ρ 7) fun t7 => trovelaw7_InflateStored.j13 d_0 i_1 t5 t6 t7 Q nx1 w) (Eq.mp (by kernel_rfl) h) ?_
                intro ρ w h
                obtain ⟨d_0, e0, h⟩ := asL_el h
                obtain ⟨i_1, e1, h⟩ := asI_el h
                obtain ⟨t5, e5, h⟩ := asP_el h
                obtain ⟨t6, e6, h⟩ := asL_el h
                obtain ⟨t7, e7, h⟩ := asI_el h
                refine reroot e0 (reroot (upd_other e1 rfl) (reroot (upd_other (upd_other e5 rfl) rfl) (reroot (upd_other (upd_other (upd_other e6 rfl) rfl) rfl) (reroot (upd_other (upd_other (upd_other (upd_other e7 rfl) rfl) rfl) rfl) ?_))))
                refine wpc_pre2 hmix (fun ρ w => asL (ρ 0) fun d_0 => asI .i64 (ρ 1) fun i_1 => asP (ρ 5) fun t5 => asL (ρ 6) fun t6 => asI .i64 (ρ 7) fun t7 => trovelaw7_InflateStored.j14 d_0 i_1 t5 t6 t7 Q nx1 w) (Eq.mp (by kernel_rfl) h) ?_
                intro ρ w h
                obtain ⟨d_0, e0, h⟩ := asL_el h
                obtain ⟨i_1, e1, h⟩ := asI_el h
                obtain ⟨t5, e5, h⟩ := asP_el h
                obtain ⟨t6, e6, h⟩ := asL_el h
                obtain ⟨t7, e7, h⟩ := asI_el h
                refine reroot e0 (reroot (upd_other e1 rfl) (reroot (upd_other (upd_other e5 rfl) rfl) (reroot (upd_other (upd_other (upd_other e6 rfl) rfl) rfl) (reroot (upd_other (upd_other (upd_other (upd_other e7 rfl) rfl) rfl) rfl) ?_))))
                refine wpc_pre2 hmix (fun ρ w => asL (ρ 0) fun d_0 => asI .i64 (ρ 1) fun i_1 => asP (ρ 5) fun t5 => asL (ρ 6) fun t6 => asI .i64 (ρ 7) fun t7 => asI .i64 (ρ 9) fun t9 => trovelaw7_InflateStored.j15 d_0 i_1 t5 t6 t7 t9 Q nx1 w) (Eq.mp (by kernel_rfl) h) ?_
                intro ρ w h
                obtain ⟨d_0, e0, h⟩ := asL_el h
                obtain ⟨i_1, e1, h⟩ := asI_el h
                obtain ⟨t5, e5, h⟩ := asP_el h
                obtain ⟨t6, e6, h⟩ := asL_el h
                obtain ⟨t7, e7, h⟩ := asI_el h
                obtain ⟨t9, e9, h⟩ := asI_el h
                refine reroot e0 (reroot (upd_other e1 rfl) (reroot (upd_other (upd_other e5 rfl) rfl) (reroot (upd_other (upd_other (upd_other e6 rfl) rfl) rfl) (reroot (upd_other (upd_other (upd_other (upd_other e7 rfl) rfl) rfl) rfl) (reroot (upd_other (upd_other (upd_other (upd_other (upd_other e9 rfl) rfl) rfl) rfl) rfl) ?_)))))
                refine wpc_seq (fun ρ w => asL (ρ 0) fun d_0 => asI .i64 (ρ 1) fun i_1 => asP (ρ 5) fun t5 => asL (ρ 6) fun t6 => asI .i64 (ρ 7) fun t7 => trovelaw7_InflateStored.j16 d_0 i_1 t5 t6 t7 Q nx1 w) ?_ ?_
                · skip
                  exact pt_sound hmix _ (Eq.mp (by kernel_rfl) h)
                · intro ρ w h
                  obtain ⟨d_0, e0, h⟩ := asL_el h
                  obtain ⟨i_1, e1, h⟩ := asI_el h
                  obtain ⟨t5, e5, h⟩ := asP_el h
                  obtain ⟨t6, e6, h⟩ := asL_el h
                  obtain ⟨t7, e7, h⟩ := asI_el h
                  refine reroot e0 (reroot (upd_other e1 rfl) (reroot (upd_other (upd_other e5 rfl) rfl) (reroot (upd_other (upd_other (upd_other e6 rfl) rfl) rfl) (reroot (upd_other (upd_other (upd_other (upd_other e7 rfl) rfl) rfl) rfl) ?_))))
                  refine wpc_seq (fun ρ w => asL (ρ 0) fun d_0 => asI .i64 (ρ 1) fun i_1 => asP (ρ 5) fun t5 => asL (ρ 6) fun t6 => asI .i64 (ρ 7) fun t7 => trovelaw7_InflateStored.j17 d_0 i_1 t5 t6 t7 Q nx1 w) ?_ ?_
                  · skip
                    refine wpc_seq (fun ρ w => asL (ρ 0) fun d_0 => asI .i64 (ρ 1) fun i_1 => asP (ρ 5) fun t5 => asL (ρ 6) fun t6 => asI .i64 (ρ 7) fun t7 => asI .i64 (ρ 10) fun t10 => trovelaw7_InflateStored.j18 d_0 i_1 t5 t6 t7 t10 Q nx1 w) ?_ ?_
                    · skip
                      exact pt_sound hmix _ (Eq.mp (by kernel_rfl) h)
                    · intro ρ w h
                      obtain ⟨d_0, e0, h⟩ := asL_el h
                      obtain ⟨i_1, e1, h⟩ := asI_el h
                      obtain ⟨t5, e5, h⟩ := asP_el h
                      obtain ⟨t6, e6, h⟩ := asL_el h
                      obtain ⟨t7, e7, h⟩ := asI_el h
                      obtain ⟨t10, e10, h⟩ := asI_el h
                      refine reroot e0 (reroot (upd_other e1 rfl) (reroot (upd_other (upd_other e5 rfl) rfl) (reroot (upd_other (upd_other (upd_other e6 rfl) rfl) rfl) (reroot (upd_other (upd_other (upd_other (upd_other e7 rfl) rfl) rfl) rfl) (reroot (upd_other (upd_other (upd_other (upd_other (upd_other e10 rfl) rfl) rfl) rfl) rfl) ?_)))))
                      refine wpc_block ?_
                      obtain ⟨I, μ, hI, hr⟩ := h
                      refine wpc_loopS (α := Int) (fun s ρ => ρ 10 = .int .i64 s ∧ ρ 0 = .slice d_0.a d_0.len d_0.cap ∧ ρ 1 = .int .i64 i_1 ∧ ρ 5 = .pointer t5 ∧ ρ 6 = .slice t6.a t6.len t6.cap ∧ ρ 7 = .int .i64 t7) (fun s w => I s w) (fun s w => μ s w) t10 ⟨rfl, rfl, rfl, rfl, rfl, rfl⟩ hI ?_
                      rintro t10 ρ w ⟨e10, e0, e1, e5, e6, e7⟩ hI
                      have h := hr t10 w hI
                      clear hr
                      obtain ⟨nx2, hnx⟩ : ∃ nx : Sl → Int → (Option Addr) → Sl → Int → Int → World → Prop, nx = (fun d_0' i_1' t5' t6' t7' t10' w' => (d_0' = d_0 ∧ i_1' = i_1 ∧ t5' = t5 ∧ t6' = t6 ∧ t7' = t7) ∧ I t10' w' ∧ μ t10' w' < μ t10 w) := ⟨_, rfl⟩
                      rw [← hnx] at h
                      refine wpc_norm (M := fun ρ w => asL (ρ 0) fun d_0 => asI .i64 (ρ 1) fun i_1 => asP (ρ 5) fun t5 => asL (ρ 6) fun t6 => asI .i64 (ρ 7) fun t7 => asI .i64 (ρ 10) fun t10 => nx2 d_0 i_1 t5 t6 t7 t10 w) ?_ (fun ρ w h => ?_)
                      · skip
                        refine reroot e0 (reroot (upd_other e1 rfl) (reroot (upd_other (upd_other e5 rfl) rfl) (reroot (upd_other (upd_other (upd_other e6 rfl) rfl) rfl) (reroot (upd_other (upd_other (upd_other (upd_other e7 rfl) rfl) rfl) rfl) (reroot (upd_other (upd_other (upd_other (upd_other (upd_other e10 rfl) rfl) rfl) rfl) rfl) ?_)))))
                        exact pt_sound hmix _ (Eq.mp (by kernel_rfl) h)
                      · skip
                        obtain ⟨d_0', e0', h⟩ := asL_el h
                        obtain ⟨i_1', e1', h⟩ := asI_el h
                        obtain ⟨t5', e5', h⟩ := asP_el h
                        obtain ⟨t6', e6', h⟩ := asL_el h
                        obtain ⟨t7', e7', h⟩ := asI_el h
                        obtain ⟨t10', e10', h⟩ := asI_el h
                        rw [hnx] at h
                        obtain ⟨hu, hI2, hμ⟩ := h
                        obtain ⟨rfl, rfl, rfl, rfl, rfl⟩ := hu
                        exact ⟨t10', ⟨e10', e0', e1', e5', e6', e7'⟩, hI2, hμ⟩
                  · intro ρ w h
                    obtain ⟨d_0, e0, h⟩ := asL_el h
                    obtain ⟨i_1, e1, h⟩ := asI_el h
                    obtain ⟨t5, e5, h⟩ := asP_el h
                    obtain ⟨t6, e6, h⟩ := asL_el h
                    obtain ⟨t7, e7, h⟩ := asI_el h
                    refine reroot e0 (reroot (upd_other e1 rfl) (reroot (upd_other (upd_other e5 rfl) rfl) (reroot (upd_other (upd_other (upd_other e6 rfl) rfl) rfl) (reroot (upd_other (upd_other (upd_other (upd_other e7 rfl) rfl) rfl) rfl) ?_))))
                    exact pt_sound hmix _ (Eq.mp (by kernel_rfl) h)
            · intro ρ w h
              obtain ⟨d_0, e0, h⟩ := asL_el h
              obtain ⟨i_1, e1, h⟩ := asI_el h
              obtain ⟨t5, e5, h⟩ := asP_el h
              obtain ⟨t6, e6, h⟩ := asL_el h
              obtain ⟨t7, e7, h⟩ := asI_el h
              refine reroot e0 (reroot (upd_other e1 rfl) (reroot (upd_other (upd_other e5 rfl) rfl) (reroot (upd_other (upd_other (upd_other e6 rfl) rfl) rfl) (reroot (upd_other (upd_other (upd_other (upd_other e7 rfl) rfl) rfl) rfl) ?_))))
              exact pt_sound hmix _ (Eq.mp (by kernel_rfl) h)
        · skip
          obtain ⟨d_0', e0', h⟩ := asL_el h
          obtain ⟨i_1', e1', h⟩ := asI_el h
          obtain ⟨t5', e5', h⟩ := asP_el h
          obtain ⟨t6', e6', h⟩ := asL_el h
          obtain ⟨t7', e7', h⟩ := asI_el h
          rw [hnx] at h
          obtain ⟨hu, hI2, hμ⟩ := h
          obtain ⟨rfl, rfl, rfl⟩ := hu
          exact ⟨(t6', t7'), ⟨e6', e7', e0', e1', e5'⟩, hI2, hμ⟩
    · intro ρ w h
      obtain ⟨d_0, e0, h⟩ := asL_el h
      obtain ⟨i_1, e1, h⟩ := asI_el h
      obtain ⟨t5, e5, h⟩ := asP_el h
      obtain ⟨t6, e6, h⟩ := asL_el h
      refine reroot e0 (reroot (upd_other e1 rfl) (reroot (upd_other (upd_other e5 rfl) rfl) (reroot (upd_other (upd_other (upd_other e6 rfl) rfl) rfl) ?_)))
      refine wpc_seq (fun ρ w => asL (ρ 0) fun d_0 => asI .i64 (ρ 1) fun i_1 => asP (ρ 5) fun t5 => asL (ρ 6) fun t6 => asL (ρ 11) fun t11 => asI .i64 (ρ 12) fun t12 => asI .i64 (ρ 13) fun t13 => trovelaw7_InflateStored.j5 d_0 i_1 t5 t6 t11 t12 t13 Q w) ?_ ?_
      · skip
        exact pt_sound hmix _ (Eq.mp (by kernel_rfl) h)
      · intro ρ w h
        obtain ⟨d_0, e0, h⟩ := asL_el h
        obtain ⟨i_1, e1, h⟩ := asI_el h
        obtain ⟨t5, e5, h⟩ := asP_el h
        obtain ⟨t6, e6, h⟩ := asL_el h
        obtain ⟨t11, e11, h⟩ := asL_el h
        obtain ⟨t12, e12, h⟩ := asI_el h
        obtain ⟨t13, e13, h⟩ := asI_el h
        refine reroot e0 (reroot (upd_other e1 rfl) (reroot (upd_other (upd_other e5 rfl) rfl) (reroot (upd_other (upd_other (upd_other e6 rfl) rfl) rfl) (reroot (upd_other (upd_other (upd_other (upd_other e11 rfl) rfl) rfl) rfl) (reroot (upd_other (upd_other (upd_other (upd_other (upd_other e12 rfl) rfl) rfl) rfl) rfl) (reroot (upd_other (upd_other (upd_other (upd_other (upd_other (upd_other e13 rfl) rfl) rfl) rfl) rfl) rfl) ?_))))))
        refine wpc_seq (fun ρ w => asP (ρ 5) fun t5 => asL (ρ 6) fun t6 => asL (ρ 11) fun t11 => asI .i64 (ρ 12) fun t12 => asI .i64 (ρ 13) fun t13 => trovelaw7_InflateStored.j6 t5 t6 t11 t12 t13 Q w) ?_ ?_
        · skip
          refine wpc_seq (fun ρ w => asP (ρ 5) fun t5 => asL (ρ 6) fun t6 => asL (ρ 11) fun t11 => asI .i64 (ρ 12) fun t12 => asI .i64 (ρ 13) fun t13 => asB (ρ 110) fun t110 => trovelaw7_InflateStored.j7 t5 t6 t11 t12 t13 t110 Q w) ?_ ?_
          · skip
            exact pt_sound hmix _ (Eq.mp (by kernel_rfl) h)
          · intro ρ w h
            obtain ⟨t5, e5, h⟩ := asP_el h
            obtain ⟨t6, e6, h⟩ := asL_el h
            obtain ⟨t11, e11, h⟩ := asL_el h
            obtain ⟨t12, e12, h⟩ := asI_el h
            obtain ⟨t13, e13, h⟩ := asI_el h
            obtain ⟨t110, e110, h⟩ := asB_el h
            refine reroot e5 (reroot (upd_other e6 rfl) (reroot (upd_other (upd_other e11 rfl) rfl) (reroot (upd_other (upd_other (upd_other e12 rfl) rfl) rfl) (reroot (upd_other (upd_other (upd_other (upd_other e13 rfl) rfl) rfl) rfl) (reroot (upd_other (upd_other (upd_other (upd_other (upd_other e110 rfl) rfl) rfl) rfl) rfl) ?_)))))
            exact pt_sound hmix _ (Eq.mp (by kernel_rfl) h)
        · intro ρ w h
          obtain ⟨t5, e5, h⟩ := asP_el h
          obtain ⟨t6, e6, h⟩ := asL_el h
          obtain ⟨t11, e11, h⟩ := asL_el h
          obtain ⟨t12, e12, h⟩ := asI_el h
          obtain ⟨t13, e13, h⟩ := asI_el h
          refine reroot e5 (reroot (upd_other e6 rfl) (reroot (upd_other (upd_other e11 rfl) rfl) (reroot (upd_other (upd_other (upd_other e12 rfl) rfl) rfl) (reroot (upd_other (upd_other (upd_other (upd_other e13 rfl) rfl) rfl) rfl) ?_))))
          exact pt_sound hmix _ (Eq.mp (by kernel_rfl) h)

/-! trove/trovelaw7.InflateFar -/
def trovelaw7_InflateFar.j12 (t10 : Sl) (t15 : Sl) (t17 : Int) (Q : Value → World → Prop) (w : World) : Prop :=
  br ((t17 : Int) == 0) (
  btS w t15.a t15.len fun x1 =>
  btS w t10.a t10.len fun x2 =>
  Q (.bool (ByteArray.toList x1 == ByteArray.toList x2)) w) (
  Q (.bool false) w)

def trovelaw7_InflateFar.b1 (i_1 : Int) (t2 : Int) (t15 : Sl) (t17 : Int) (t10 : Sl) (t18 : Int) (Q : Value → World → Prop) (nx1 : Int → Int → Sl → Int → Sl → Int → World → Prop) (w : World) : Prop :=
  br (decide ((t18 : Int) < i_1)) (
  lt (IntKind.i64.wrap (((t10.len : Nat) : Int) - t2)) fun x3 =>
  ixS t10.a t10.len x3 1 fun a4 =>
  ldI .u8 w a4 fun x5 =>
  lt (⟨World.heapSize w, 0, none⟩ : Addr) fun a6 =>
  lt (World.alloc w (.cells ⟨[.int .u8 x5]⟩ 5)) fun w7 =>
  rdO w7 (some a6) (1 * 1) fun c8 =>
  apK Try.prog 5 w7 t10.a t10.len t10.cap 1 c8 fun s9 w10 =>
  lt (IntKind.i64.wrap (t18 + 1)) fun x11 =>
  nx1 i_1 t2 t15 t17 s9 x11 w10) (
  trovelaw7_InflateFar.j12 t10 t15 t17 Q w)

def trovelaw7_InflateFar.l1 (i_1 : Int) (t2 : Int) (t15 : Sl) (t17 : Int) (t10 : Sl) (t18 : Int) (Q : Value → World → Prop) (w : World) : Prop :=
  ∃ (I : Sl → Int → World → Prop) (μ : Sl → Int → World → Nat), I t10 t18 w ∧ ∀ t10 : Sl, ∀ t18 : Int, ∀ w : World, I t10 t18 w → trovelaw7_InflateFar.b1 i_1 t2 t15 t17 t10 t18 Q (fun i_1' t2' t15' t17' t10' t18' w' => (i_1' = i_1 ∧ t2' = t2 ∧ t15' = t15 ∧ t17' = t17) ∧ I t10' t18' w' ∧ μ t10' t18' w' < μ t10 t18 w) w

def trovelaw7_InflateFar.j13 (i_1 : Int) (t2 : Int) (t10 : Sl) (t15 : Sl) (t17 : Int) (t18 : Int) (Q : Value → World → Prop) (w : World) : Prop :=
  trovelaw7_InflateFar.l1 i_1 t2 t15 t17 t10 t18 Q w

def trovelaw7_InflateFar.j11 (i_1 : Int) (t2 : Int) (t10 : Sl) (t15 : Sl) (t17 : Int) (Q : Value → World → Prop) (w : World) : Prop :=
  trovelaw7_InflateFar.j13 i_1 t2 t10 t15 t17 0 Q w

def trovelaw7_InflateFar.j10 (d_0 : Int) (i_1 : Int) (t2 : Int) (t9 : (Option Addr)) (t10 : Sl) (Q : Value → World → Prop) (w : World) : Prop :=
  Calls Try.prog 49 ⟨[.pointer t9]⟩ w fun e12 w13 =>
  ∃ r14 : Sl, e12 = .returned (.slice r14.a r14.len r14.cap) ∧
  Calls Try.prog 121 ⟨[.slice r14.a r14.len r14.cap, .int .i64 5000]⟩ w13 fun e15 w16 =>
  ∃ r17 : Sl, ∃ r18 : Int, ∃ r19 : Int, e15 = .returned (.tuple ⟨[.slice r17.a r17.len r17.cap, .int .i64 r18, .int .i64 r19]⟩) ∧
  br (decide ((t2 : Int) > d_0)) (
  br ((r19 : Int) == 2) (
  Q (.bool ((((r17.len : Nat) : Int) : Int) == 0)) w16) (
  Q (.bool false) w16)) (
  trovelaw7_InflateFar.j11 i_1 t2 t10 r17 r19 Q w16)

def trovelaw7_InflateFar.j9 (d_0 : Int) (i_1 : Int) (t2 : Int) (t9 : (Option Addr)) (t10 : Sl) (t13 : Int) (t14 : Int) (Q : Value → World → Prop) (w : World) : Prop :=
  Calls Try.prog 42 ⟨[.pointer t9, .int .i64 t13, .int .i64 t14]⟩ w fun e20 w21 =>
  e20 = .returned (.tuple ⟨[]⟩) ∧
  Calls Try.prog 122 ⟨[.pointer t9, .int .i64 256]⟩ w21 fun e22 w23 =>
  e22 = .returned (.tuple ⟨[]⟩) ∧
  trovelaw7_InflateFar.j10 d_0 i_1 t2 t9 t10 Q w23

def trovelaw7_InflateFar.j8 (d_0 : Int) (i_1 : Int) (t2 : Int) (t9 : (Option Addr)) (t10 : Sl) (Q : Value → World → Prop) (w : World) : Prop :=
  Calls Try.prog 123 ⟨[.int .i64 t2, .bool true]⟩ w fun e24 w25 =>
  ∃ r26 : Int, ∃ r27 : Int, ∃ r28 : Int, e24 = .returned (.tuple ⟨[.int .i64 r26, .int .i64 r27, .int .i64 r28]⟩) ∧
  Calls Try.prog 43 ⟨[.pointer t9, .int .i64 r26, .int .i64 5]⟩ w25 fun e29 w30 =>
  e29 = .returned (.tuple ⟨[]⟩) ∧
  trovelaw7_InflateFar.j9 d_0 i_1 t2 t9 t10 r27 r28 Q w30

def trovelaw7_InflateFar.j7 (d_0 : Int) (i_1 : Int) (t2 : Int) (t9 : (Option Addr)) (t10 : Sl) (t12 : Int) (t13 : Int) (t14 : Int) (Q : Value → World → Prop) (w : World) : Prop :=
  Calls Try.prog 122 ⟨[.pointer t9, .int .i64 t12]⟩ w fun e31 w32 =>
  e31 = .returned (.tuple ⟨[]⟩) ∧
  Calls Try.prog 42 ⟨[.pointer t9, .int .i64 t13, .int .i64 t14]⟩ w32 fun e33 w34 =>
  e33 = .returned (.tuple ⟨[]⟩) ∧
  trovelaw7_InflateFar.j8 d_0 i_1 t2 t9 t10 Q w34

def trovelaw7_InflateFar.j6 (d_0 : Int) (i_1 : Int) (t2 : Int) (t9 : (Option Addr)) (t10 : Sl) (Q : Value → World → Prop) (w : World) : Prop :=
  Calls Try.prog 123 ⟨[.int .i64 i_1, .bool false]⟩ w fun e35 w36 =>
  ∃ r37 : Int, ∃ r38 : Int, ∃ r39 : Int, e35 = .returned (.tuple ⟨[.int .i64 r37, .int .i64 r38, .int .i64 r39]⟩) ∧
  trovelaw7_InflateFar.j7 d_0 i_1 t2 t9 t10 r37 r38 r39 Q w36

def trovelaw7_InflateFar.b2 (d_0 : Int) (i_1 : Int) (t2 : Int) (t7 : Sl) (t9 : (Option Addr)) (t10 : Sl) (t11 : Int) (Q : Value → World → Prop) (nx2 : Int → Int → Int → Sl → (Option Addr) → Sl → Int → World → Prop) (w : World) : Prop :=
  br (decide ((t11 : Int) < d_0)) (
  ixS t7.a t7.len t11 3 fun a40 =>
  ldI .u8 w (Addr.add a40 0) fun x41 =>
  lt (IntKind.i64.wrap x41) fun x42 =>
  Calls Try.prog 122 ⟨[.pointer t9, .int .i64 x42]⟩ w fun e43 w44 =>
  e43 = .returned (.tuple ⟨[]⟩) ∧
  ixS t7.a t7.len t11 3 fun a45 =>
  ldI .u8 w44 (Addr.add a45 0) fun x46 =>
  lt (⟨World.heapSize w44, 0, none⟩ : Addr) fun a47 =>
  lt (World.alloc w44 (.cells ⟨[.int .u8 x46]⟩ 5)) fun w48 =>
  rdO w48 (some a47) (1 * 1) fun c49 =>
  apK Try.prog 5 w48 t10.a t10.len t10.cap 1 c49 fun s50 w51 =>
  lt (IntKind.i64.wrap (t11 + 1)) fun x52 =>
  nx2 d_0 i_1 t2 t7 t9 s50 x52 w51) (
  trovelaw7_InflateFar.j6 d_0 i_1 t2 t9 t10 Q w)

def trovelaw7_InflateFar.l2 (d_0 : Int) (i_1 : Int) (t2 : Int) (t7 : Sl) (t9 : (Option Addr)) (t10 : Sl) (t11 : Int) (Q : Value → World → Prop) (w : World) : Prop :=
  ∃ (I : Sl → Int → World → Prop) (μ : Sl → Int → World → Nat), I t10 t11 w ∧ ∀ t10 : Sl, ∀ t11 : Int, ∀ w : World, I t10 t11 w → trovelaw7_InflateFar.b2 d_0 i_1 t2 t7 t9 t10 t11 Q (fun d_0' i_1' t2' t7' t9' t10' t11' w' => (d_0' = d_0 ∧ i_1' = i_1 ∧ t2' = t2 ∧ t7' = t7 ∧ t9' = t9) ∧ I t10' t11' w' ∧ μ t10' t11' w' < μ t10 t11 w) w

def trovelaw7_InflateFar.j14 (d_0 : Int) (i_1 : Int) (t2 : Int) (t7 : Sl) (t9 : (Option Addr)) (t10 : Sl) (t11 : Int) (Q : Value → World → Prop) (w : World) : Prop :=
  trovelaw7_InflateFar.l2 d_0 i_1 t2 t7 t9 t10 t11 Q w

def trovelaw7_InflateFar.j5 (d_0 : Int) (i_1 : Int) (t2 : Int) (t7 : Sl) (t9 : (Option Addr)) (t10 : Sl) (Q : Value → World → Prop) (w : World) : Prop :=
  trovelaw7_InflateFar.j14 d_0 i_1 t2 t7 t9 t10 0 Q w

def trovelaw7_InflateFar.j4 (d_0 : Int) (i_1 : Int) (t2 : Int) (t7 : Sl) (t9 : (Option Addr)) (Q : Value → World → Prop) (w : World) : Prop :=
  Calls Try.prog 42 ⟨[.pointer t9, .int .i64 1, .int .i64 2]⟩ w fun e53 w54 =>
  e53 = .returned (.tuple ⟨[]⟩) ∧
  trovelaw7_InflateFar.j5 d_0 i_1 t2 t7 t9 ⟨none, 0, 0⟩ Q w54

def trovelaw7_InflateFar.j3 (d_0 : Int) (i_1 : Int) (t2 : Int) (t7 : Sl) (Q : Value → World → Prop) (w : World) : Prop :=
  lt (⟨World.heapSize w, 0, none⟩ : Addr) fun a55 =>
  lt (World.alloc w (.cells (⟨[.slice none 0 0]⟩ : Array Value) 42)) fun w56 =>
  Calls Try.prog 42 ⟨[.pointer (some a55), .int .i64 1, .int .i64 1]⟩ w56 fun e57 w58 =>
  e57 = .returned (.tuple ⟨[]⟩) ∧
  trovelaw7_InflateFar.j4 d_0 i_1 t2 t7 (some a55) Q w58

def trovelaw7_InflateFar.b3 (d_0 : Int) (i_1 : Int) (t2 : Int) (t7 : Sl) (t8 : Int) (Q : Value → World → Prop) (nx3 : Int → Int → Int → Sl → Int → World → Prop) (w : World) : Prop :=
  br (decide ((t8 : Int) < d_0)) (
  lt (IntKind.u8.wrap t8) fun x59 =>
  ((⟨[.int .u8 x59, .int .i64 0, .int .i64 0]⟩ : Array Value)).size = 3 ∧
  lt (⟨World.heapSize w, 0, none⟩ : Addr) fun a60 =>
  lt (World.alloc w (.cells ⟨(spl [.int .u8 0, .int .i64 0, .int .i64 0] 0 (⟨[.int .u8 x59, .int .i64 0, .int .i64 0]⟩ : Array Value))⟩ 140)) fun w61 =>
  rdO w61 (some a60) (1 * 3) fun c62 =>
  apK Try.prog 140 w61 t7.a t7.len t7.cap 1 c62 fun s63 w64 =>
  lt (IntKind.i64.wrap (t8 + 1)) fun x65 =>
  nx3 d_0 i_1 t2 s63 x65 w64) (
  trovelaw7_InflateFar.j3 d_0 i_1 t2 t7 Q w)

def trovelaw7_InflateFar.l3 (d_0 : Int) (i_1 : Int) (t2 : Int) (t7 : Sl) (t8 : Int) (Q : Value → World → Prop) (w : World) : Prop :=
  ∃ (I : Sl → Int → World → Prop) (μ : Sl → Int → World → Nat), I t7 t8 w ∧ ∀ t7 : Sl, ∀ t8 : Int, ∀ w : World, I t7 t8 w → trovelaw7_InflateFar.b3 d_0 i_1 t2 t7 t8 Q (fun d_0' i_1' t2' t7' t8' w' => (d_0' = d_0 ∧ i_1' = i_1 ∧ t2' = t2) ∧ I t7' t8' w' ∧ μ t7' t8' w' < μ t7 t8 w) w

def trovelaw7_InflateFar.j15 (d_0 : Int) (i_1 : Int) (t2 : Int) (t7 : Sl) (t8 : Int) (Q : Value → World → Prop) (w : World) : Prop :=
  trovelaw7_InflateFar.l3 d_0 i_1 t2 t7 t8 Q w

def trovelaw7_InflateFar.j2 (d_0 : Int) (i_1 : Int) (t2 : Int) (t7 : Sl) (Q : Value → World → Prop) (w : World) : Prop :=
  trovelaw7_InflateFar.j15 d_0 i_1 t2 t7 0 Q w

def trovelaw7_InflateFar.j1 (d_0 : Int) (i_1 : Int) (t2 : Int) (Q : Value → World → Prop) (w : World) : Prop :=
  br (decide ((d_0 : Int) < 1)) (
  Q (.bool true) w) (
  br (decide ((d_0 : Int) > 300)) (
  Q (.bool true) w) (
  br (decide ((i_1 : Int) < 3)) (
  Q (.bool true) w) (
  br (decide ((i_1 : Int) > 258)) (
  Q (.bool true) w) (
  br (decide ((t2 : Int) < 1)) (
  Q (.bool true) w) (
  br (decide ((t2 : Int) > 400)) (
  Q (.bool true) w) (
  trovelaw7_InflateFar.j2 d_0 i_1 t2 ⟨none, 0, 0⟩ Q w))))))

def trovelaw7_InflateFar (d_0 : Int) (i_1 : Int) (t2 : Int) (Q : Value → World → Prop) (w : World) : Prop :=
  Calls Try.prog 113 ⟨[]⟩ w fun e66 w67 =>
  ∃ r68 : Bool, e66 = .returned (.bool r68) ∧
  br (!r68) (
  Q (.bool false) w67) (
  trovelaw7_InflateFar.j1 d_0 i_1 t2 Q w67)

theorem trovelaw7_InflateFar.ok (d_0 : Int) (i_1 : Int) (t2 : Int) (Q : Value → World → Prop) (w : World) (h : trovelaw7_InflateFar d_0 i_1 t2 Q w) : Calls Try.prog 30 ⟨[.int .i64 d_0, .int .i64 i_1, .int .i64 t2]⟩ w (Ret Q) := by
  refine calls_of_wpc [.tmp 6] Try.func30 rfl rfl rfl rfl ?_
  refine wpc_pre2 hmix (fun ρ w => asI .i64 (ρ 0) fun d_0 => asI .i64 (ρ 1) fun i_1 => asI .i64 (ρ 2) fun t2 => trovelaw7_InflateFar.j1 d_0 i_1 t2 Q w) (Eq.mp (by kernel_rfl) h) ?_
  intro ρ w h
  obtain ⟨d_0, e0, h⟩ := asI_el h
  obtain ⟨i_1, e1, h⟩ := asI_el h
  obtain ⟨t2, e2, h⟩ := asI_el h
  refine reroot e0 (reroot (upd_other e1 rfl) (reroot (upd_other (upd_other e2 rfl) rfl) ?_))
  refine wpc_pre2 hmix (fun ρ w => asI .i64 (ρ 0) fun d_0 => asI .i64 (ρ 1) fun i_1 => asI .i64 (ρ 2) fun t2 => asL (ρ 7) fun t7 => trovelaw7_InflateFar.j2 d_0 i_1 t2 t7 Q w) (Eq.mp (by kernel_rfl) h) ?_
  intro ρ w h
  obtain ⟨d_0, e0, h⟩ := asI_el h
  obtain ⟨i_1, e1, h⟩ := asI_el h
  obtain ⟨t2, e2, h⟩ := asI_el h
  obtain ⟨t7, e7, h⟩ := asL_el h
  refine reroot e0 (reroot (upd_other e1 rfl) (reroot (upd_other (upd_other e2 rfl) rfl) (reroot (upd_other (upd_other (upd_other e7 rfl) rfl) rfl) ?_)))
  refine wpc_seq (fun ρ w => asI .i64 (ρ 0) fun d_0 => asI .i64 (ρ 1) fun i_1 => asI .i64 (ρ 2) fun t2 => asL (ρ 7) fun t7 => trovelaw7_InflateFar.j3 d_0 i_1 t2 t7 Q w) ?_ ?_
  · skip
    refine wpc_seq (fun ρ w => asI .i64 (ρ 0) fun d_0 => asI .i64 (ρ 1) fun i_1 => asI .i64 (ρ 2) fun t2 => asL (ρ 7) fun t7 => asI .i64 (ρ 8) fun t8 => trovelaw7_InflateFar.j15 d_0 i_1 t2 t7 t8 Q w) ?_ ?_
    · skip
      exact pt_sound hmix _ (Eq.mp (by kernel_rfl) h)
    · intro ρ w h
      obtain ⟨d_0, e0, h⟩ := asI_el h
      obtain ⟨i_1, e1, h⟩ := asI_el h
      obtain ⟨t2, e2, h⟩ := asI_el h
      obtain ⟨t7, e7, h⟩ := asL_el h
      obtain ⟨t8, e8, h⟩ := asI_el h
      refine reroot e0 (reroot (upd_other e1 rfl) (reroot (upd_other (upd_other e2 rfl) rfl) (reroot (upd_other (upd_other (upd_other e7 rfl) rfl) rfl) (reroot (upd_other (upd_other (upd_other (upd_other e8 rfl) rfl) rfl) rfl) ?_))))
      refine wpc_block ?_
      obtain ⟨I, μ, hI, hr⟩ := h
      refine wpc_loopS (α := Sl × Int) (fun s ρ => ρ 7 = .slice s.1.a s.1.len s.1.cap ∧ ρ 8 = .int .i64 s.2 ∧ ρ 0 = .int .i64 d_0 ∧ ρ 1 = .int .i64 i_1 ∧ ρ 2 = .int .i64 t2) (fun s w => I s.1 s.2 w) (fun s w => μ s.1 s.2 w) (t7, t8) ⟨rfl, rfl, rfl, rfl, rfl⟩ hI ?_
      rintro ⟨t7, t8⟩ ρ w ⟨e7, e8, e0, e1, e2⟩ hI
      have h := hr t7 t8 w hI
      clear hr
      obtain ⟨nx3, hnx⟩ : ∃ nx : Int → Int → Int → Sl → Int → World → Prop, nx = (fun d_0' i_1' t2' t7' t8' w' => (d_0' = d_0 ∧ i_1' = i_1 ∧ t2' = t2) ∧ I t7' t8' w' ∧ μ t7' t8' w' < μ t7 t8 w) := ⟨_, rfl⟩
      rw [← hnx] at h
      refine wpc_norm (M := fun ρ w => asI .i64 (ρ 0) fun d_0 => asI .i64 (ρ 1) fun i_1 => asI .i64 (ρ 2) fun t2 => asL (ρ 7) fun t7 => asI .i64 (ρ 8) fun t8 => nx3 d_0 i_1 t2 t7 t8 w) ?_ (fun ρ w h => ?_)
      · skip
        refine reroot e0 (reroot (upd_other e1 rfl) (reroot (upd_other (upd_other e2 rfl) rfl) (reroot (upd_other (upd_other (upd_other e7 rfl) rfl) rfl) (reroot (upd_other (upd_other (upd_other (upd_other e8 rfl) rfl) rfl) rfl) ?_))))
        exact pt_sound hmix _ (Eq.mp (by kernel_rfl) h)
      · skip
        obtain ⟨d_0', e0', h⟩ := asI_el h
        obtain ⟨i_1', e1', h⟩ := asI_el h
        obtain ⟨t2', e2', h⟩ := asI_el h
        obtain ⟨t7', e7', h⟩ := asL_el h
        obtain ⟨t8', e8', h⟩ := asI_el h
        rw [hnx] at h
        obtain ⟨hu, hI2, hμ⟩ := h
        obtain ⟨rfl, rfl, rfl⟩ := hu
        exact ⟨(t7', t8'), ⟨e7', e8', e0', e1', e2'⟩, hI2, hμ⟩
  · intro ρ w h
    obtain ⟨d_0, e0, h⟩ := asI_el h
    obtain ⟨i_1, e1, h⟩ := asI_el h
    obtain ⟨t2, e2, h⟩ := asI_el h
    obtain ⟨t7, e7, h⟩ := asL_el h
    refine reroot e0 (reroot (upd_other e1 rfl) (reroot (upd_other (upd_other e2 rfl) rfl) (reroot (upd_other (upd_other (upd_other e7 rfl) rfl) rfl) ?_)))
    refine wpc_pre2 hmix (fun ρ w => asI .i64 (ρ 0) fun d_0 => asI .i64 (ρ 1) fun i_1 => asI .i64 (ρ 2) fun t2 => asL (ρ 7) fun t7 => asP (ρ 9) fun t9 => trovelaw7_InflateFar.j4 d_0 i_1 t2 t7 t9 Q w) (Eq.mp (by kernel_rfl) h) ?_
    intro ρ w h
    obtain ⟨d_0, e0, h⟩ := asI_el h
    obtain ⟨i_1, e1, h⟩ := asI_el h
    obtain ⟨t2, e2, h⟩ := asI_el h
    obtain ⟨t7, e7, h⟩ := asL_el h
    obtain ⟨t9, e9, h⟩ := asP_el h
    refine reroot e0 (reroot (upd_other e1 rfl) (reroot (upd_other (upd_other e2 rfl) rfl) (reroot (upd_other (upd_other (upd_other e7 rfl) rfl) rfl) (reroot (upd_other (upd_other (upd_other (upd_other e9 rfl) rfl) rfl) rfl) ?_))))
    refine wpc_pre2 hmix (fun ρ w => asI .i64 (ρ 0) fun d_0 => asI .i64 (ρ 1) fun i_1 => asI .i64 (ρ 2) fun t2 => asL (ρ 7) fun t7 => asP (ρ 9) fun t9 => asL (ρ 10) fun t10 => trovelaw7_InflateFar.j5 d_0 i_1 t2 t7 t9 t10 Q w) (Eq.mp (by kernel_rfl) h) ?_
    intro ρ w h
    obtain ⟨d_0, e0, h⟩ := asI_el h
    obtain ⟨i_1, e1, h⟩ := asI_el h
    obtain ⟨t2, e2, h⟩ := asI_el h
    obtain ⟨t7, e7, h⟩ := asL_el h
    obtain ⟨t9, e9, h⟩ := asP_el h
    obtain ⟨t10, e10, h⟩ := asL_el h
    refine reroot e0 (reroot (upd_other e1 rfl) (reroot (upd_other (upd_other e2 rfl) rfl) (reroot (upd_other (upd_other (upd_other e7 rfl) rfl) rfl) (reroot (upd_other (upd_other (upd_other (upd_other e9 rfl) rfl) rfl) rfl) (reroot (upd_other (upd_other (upd_other (upd_other (upd_other e10 rfl) rfl) rfl) rfl) rfl) ?_)))))
    refine wpc_seq (fun ρ w => asI .i64 (ρ 0) fun d_0 => asI .i64 (ρ 1) fun i_1 => asI .i64 (ρ 2) fun t2 => asP (ρ 9) fun t9 => asL (ρ 10) fun t10 => trovelaw7_InflateFar.j6 d_0 i_1 t2 t9 t10 Q w) ?_ ?_
    · skip
      refine wpc_seq (fun ρ w => asI .i64 (ρ 0) fun d_0 => asI .i64 (ρ 1) fun i_1 => asI .i64 (ρ 2) fun t2 => asL (ρ 7) fun t7 => asP (ρ 9) fun t9 => asL (ρ 10) fun t10 => asI .i64 (ρ 11) fun t11 => trovelaw7_InflateFar.j14 d_0 i_1 t2 t7 t9 t10 t11 Q w) ?_ ?_
      · skip
        exact pt_sound hmix _ (Eq.mp (by kernel_rfl) h)
      · intro ρ w h
        obtain ⟨d_0, e0, h⟩ := asI_el h
        obtain ⟨i_1, e1, h⟩ := asI_el h
        obtain ⟨t2, e2, h⟩ := asI_el h
        obtain ⟨t7, e7, h⟩ := asL_el h
        obtain ⟨t9, e9, h⟩ := asP_el h
        obtain ⟨t10, e10, h⟩ := asL_el h
        obtain ⟨t11, e11, h⟩ := asI_el h
        refine reroot e0 (reroot (upd_other e1 rfl) (reroot (upd_other (upd_other e2 rfl) rfl) (reroot (upd_other (upd_other (upd_other e7 rfl) rfl) rfl) (reroot (upd_other (upd_other (upd_other (upd_other e9 rfl) rfl) rfl) rfl) (reroot (upd_other (upd_other (upd_other (upd_other (upd_other e10 rfl) rfl) rfl) rfl) rfl) (reroot (upd_other (upd_other (upd_other (upd_other (upd_other (upd_other e11 rfl) rfl) rfl) rfl) rfl) rfl) ?_))))))
        refine wpc_block ?_
        obtain ⟨I, μ, hI, hr⟩ := h
        refine wpc_loopS (α := Sl × Int) (fun s ρ => ρ 10 = .slice s.1.a s.1.len s.1.cap ∧ ρ 11 = .int .i64 s.2 ∧ ρ 0 = .int .i64 d_0 ∧ ρ 1 = .int .i64 i_1 ∧ ρ 2 = .int .i64 t2 ∧ ρ 7 = .slice t7.a t7.len t7.cap ∧ ρ 9 = .pointer t9) (fun s w => I s.1 s.2 w) (fun s w => μ s.1 s.2 w) (t10, t11) ⟨rfl, rfl, rfl, rfl, rfl, rfl, rfl⟩ hI ?_
        rintro ⟨t10, t11⟩ ρ w ⟨e10, e11, e0, e1, e2, e7, e9⟩ hI
        have h := hr t10 t11 w hI
        clear hr
        obtain ⟨nx2, hnx⟩ : ∃ nx : Int → Int → Int → Sl → (Option Addr) → Sl → Int → World → Prop, nx = (fun d_0' i_1' t2' t7' t9' t10' t11' w' => (d_0' = d_0 ∧ i_1' = i_1 ∧ t2' = t2 ∧ t7' = t7 ∧ t9' = t9) ∧ I t10' t11' w' ∧ μ t10' t11' w' < μ t10 t11 w) := ⟨_, rfl⟩
        rw [← hnx] at h
        refine wpc_norm (M := fun ρ w => asI .i64 (ρ 0) fun d_0 => asI .i64 (ρ 1) fun i_1 => asI .i64 (ρ 2) fun t2 => asL (ρ 7) fun t7 => asP (ρ 9) fun t9 => asL (ρ 10) fun t10 => asI .i64 (ρ 11) fun t11 => nx2 d_0 i_1 t2 t7 t9 t10 t11 w) ?_ (fun ρ w h => ?_)
        · skip
          refine reroot e0 (reroot (upd_other e1 rfl) (reroot (upd_other (upd_other e2 rfl) rfl) (reroot (upd_other (upd_other (upd_other e7 rfl) rfl) rfl) (reroot (upd_other (upd_other (upd_other (upd_other e9 rfl) rfl) rfl) rfl) (reroot (upd_other (upd_other (upd_other (upd_other (upd_other e10 rfl) rfl) rfl) rfl) rfl) (reroot (upd_other (upd_other (upd_other (upd_other (upd_other (upd_other e11 rfl) rfl) rfl) rfl) rfl) rfl) ?_))))))
          exact pt_sound hmix _ (Eq.mp (by kernel_rfl) h)
        · skip
          obtain ⟨d_0', e0', h⟩ := asI_el h
          obtain ⟨i_1', e1', h⟩ := asI_el h
          obtain ⟨t2', e2', h⟩ := asI_el h
          obtain ⟨t7', e7', h⟩ := asL_el h
          obtain ⟨t9', e9', h⟩ := asP_el h
          obtain ⟨t10', e10', h⟩ := asL_el h
          obtain ⟨t11', e11', h⟩ := asI_el h
          rw [hnx] at h
          obtain ⟨hu, hI2, hμ⟩ := h
          obtain ⟨rfl, rfl, rfl, rfl, rfl⟩ := hu
          exact ⟨(t10', t11'), ⟨e10', e11', e0', e1', e2', e7', e9'⟩, hI2, hμ⟩
    · intro ρ w h
      obtain ⟨d_0, e0, h⟩ := asI_el h
      obtain ⟨i_1, e1, h⟩ := asI_el h
      obtain ⟨t2, e2, h⟩ := asI_el h
      obtain ⟨t9, e9, h⟩ := asP_el h
      obtain ⟨t10, e10, h⟩ := asL_el h
      refine reroot e0 (reroot (upd_other e1 rfl) (reroot (upd_other (upd_other e2 rfl) rfl) (reroot (upd_other (upd_other (upd_other e9 rfl) rfl) rfl) (reroot (upd_other (upd_other (upd_other (upd_other e10 rfl) rfl) rfl) rfl) ?_))))
      refine wpc_seq (fun ρ w => asI .i64 (ρ 0) fun d_0 => asI .i64 (ρ 1) fun i_1 => asI .i64 (ρ 2) fun t2 => asP (ρ 9) fun t9 => asL (ρ 10) fun t10 => asI .i64 (ρ 12) fun t12 => asI .i64 (ρ 13) fun t13 => asI .i64 (ρ 14) fun t14 => trovelaw7_InflateFar.j7 d_0 i_1 t2 t9 t10 t12 t13 t14 Q w) ?_ ?_
      · skip
        exact pt_sound hmix _ (Eq.mp (by kernel_rfl) h)
      · intro ρ w h
        obtain ⟨d_0, e0, h⟩ := asI_el h
        obtain ⟨i_1, e1, h⟩ := asI_el h
        obtain ⟨t2, e2, h⟩ := asI_el h
        obtain ⟨t9, e9, h⟩ := asP_el h
        obtain ⟨t10, e10, h⟩ := asL_el h
        obtain ⟨t12, e12, h⟩ := asI_el h
        obtain ⟨t13, e13, h⟩ := asI_el h
        obtain ⟨t14, e14, h⟩ := asI_el h
        refine reroot e0 (reroot (upd_other e1 rfl) (reroot (upd_other (upd_other e2 rfl) rfl) (reroot (upd_other (upd_other (upd_other e9 rfl) rfl) rfl) (reroot (upd_other (upd_other (upd_other (upd_other e10 rfl) rfl) rfl) rfl) (reroot (upd_other (upd_other (upd_other (upd_other (upd_other e12 rfl) rfl) rfl) rfl) rfl) (reroot (upd_other (upd_other (upd_other (upd_other (upd_other (upd_other e13 rfl) rfl) rfl) rfl) rfl) rfl) (reroot (upd_other (upd_other (upd_other (upd_other (upd_other (upd_other (upd_other e14 rfl) rfl) rfl) rfl) rfl) rfl) rfl) ?_)))))))
        refine wpc_pre2 hmix (fun ρ w => asI .i64 (ρ 0) fun d_0 => asI .i64 (ρ 1) fun i_1 => asI .i64 (ρ 2) fun t2 => asP (ρ 9) fun t9 => asL (ρ 10) fun t10 => trovelaw7_InflateFar.j8 d_0 i_1 t2 t9 t10 Q w) (Eq.mp (by kernel_rfl) h) ?_
        intro ρ w h
        obtain ⟨d_0, e0, h⟩ := asI_el h
        obtain ⟨i_1, e1, h⟩ := asI_el h
        obtain ⟨t2, e2, h⟩ := asI_el h
        obtain ⟨t9, e9, h⟩ := asP_el h
        obtain ⟨t10, e10, h⟩ := asL_el h
        refine reroot e0 (reroot (upd_other e1 rfl) (reroot (upd_other (upd_other e2 rfl) rfl) (reroot (upd_other (upd_other (upd_other e9 rfl) rfl) rfl) (reroot (upd_other (upd_other (upd_other (upd_other e10 rfl) rfl) rfl) rfl) ?_))))
        refine wpc_pre2 hmix (fun ρ w => asI .i64 (ρ 0) fun d_0 => asI .i64 (ρ 1) fun i_1 => asI .i64 (ρ 2) fun t2 => asP (ρ 9) fun t9 => asL (ρ 10) fun t10 => asI .i64 (ρ 13) fun t13 => asI .i64 (ρ 14) fun t14 => trovelaw7_InflateFar.j9 d_0 i_1 t2 t9 t10 t13 t14 Q w) (Eq.mp (by kernel_rfl) h) ?_
        intro ρ w h
        obtain ⟨d_0, e0, h⟩ := asI_el h
        obtain ⟨i_1, e1, h⟩ := asI_el h
        obtain ⟨t2, e2, h⟩ := asI_el h
        obtain ⟨t9, e9, h⟩ := asP_el h
        obtain ⟨t10, e10, h⟩ := asL_el h
        obtain ⟨t13, e13, h⟩ := asI_el h
        obtain ⟨t14, e14, h⟩ := asI_el h
        refine reroot e0 (reroot (upd_other e1 rfl) (reroot (upd_other (upd_other e2 rfl) rfl) (reroot (upd_other (upd_other (upd_other e9 rfl) rfl) rfl) (reroot (upd_other (upd_other (upd_other (upd_other e10 rfl) rfl) rfl) rfl) (reroot (upd_other (upd_other (upd_other (upd_other (upd_other e13 rfl) rfl) rfl) rfl) rfl) (reroot (upd_other (upd_other (upd_other (upd_other (upd_other (upd_other e14 rfl) rfl) rfl) rfl) rfl) rfl) ?_))))))
        refine wpc_pre2 hmix (fun ρ w => asI .i64 (ρ 0) fun d_0 => asI .i64 (ρ 1) fun i_1 => asI .i64 (ρ 2) fun t2 => asP (ρ 9) fun t9 => asL (ρ 10) fun t10 => trovelaw7_InflateFar.j10 d_0 i_1 t2 t9 t10 Q w) (Eq.mp (by kernel_rfl) h) ?_
        intro ρ w h
        obtain ⟨d_0, e0, h⟩ := asI_el h
        obtain ⟨i_1, e1, h⟩ := asI_el h
        obtain ⟨t2, e2, h⟩ := asI_el h
        obtain ⟨t9, e9, h⟩ := asP_el h
        obtain ⟨t10, e10, h⟩ := asL_el h
        refine reroot e0 (reroot (upd_other e1 rfl) (reroot (upd_other (upd_other e2 rfl) rfl) (reroot (upd_other (upd_other (upd_other e9 rfl) rfl) rfl) (reroot (upd_other (upd_other (upd_other (upd_other e10 rfl) rfl) rfl) rfl) ?_))))
        refine wpc_pre2 hmix (fun ρ w => asI .i64 (ρ 1) fun i_1 => asI .i64 (ρ 2) fun t2 => asL (ρ 10) fun t10 => asL (ρ 15) fun t15 => asI .i64 (ρ 17) fun t17 => trovelaw7_InflateFar.j11 i_1 t2 t10 t15 t17 Q w) (Eq.mp (by kernel_rfl) h) ?_
        intro ρ w h
        obtain ⟨i_1, e1, h⟩ := asI_el h
        obtain ⟨t2, e2, h⟩ := asI_el h
        obtain ⟨t10, e10, h⟩ := asL_el h
        obtain ⟨t15, e15, h⟩ := asL_el h
        obtain ⟨t17, e17, h⟩ := asI_el h
        refine reroot e1 (reroot (upd_other e2 rfl) (reroot (upd_other (upd_other e10 rfl) rfl) (reroot (upd_other (upd_other (upd_other e15 rfl) rfl) rfl) (reroot (upd_other (upd_other (upd_other (upd_other e17 rfl) rfl) rfl) rfl) ?_))))
        refine wpc_seq (fun ρ w => asL (ρ 10) fun t10 => asL (ρ 15) fun t15 => asI .i64 (ρ 17) fun t17 => trovelaw7_InflateFar.j12 t10 t15 t17 Q w) ?_ ?_
        · skip
          refine wpc_seq (fun ρ w => asI .i64 (ρ 1) fun i_1 => asI .i64 (ρ 2) fun t2 => asL (ρ 10) fun t10 => asL (ρ 15) fun t15 => asI .i64 (ρ 17) fun t17 => asI .i64 (ρ 18) fun t18 => trovelaw7_InflateFar.j13 i_1 t2 t10 t15 t17 t18 Q w) ?_ ?_
          · skip
            exact pt_sound hmix _ (Eq.mp (by kernel_rfl) h)
          · intro ρ w h
            obtain ⟨i_1, e1, h⟩ := asI_el h
            obtain ⟨t2, e2, h⟩ := asI_el h
            obtain ⟨t10, e10, h⟩ := asL_el h
            obtain ⟨t15, e15, h⟩ := asL_el h
            obtain ⟨t17, e17, h⟩ := asI_el h
            obtain ⟨t18, e18, h⟩ := asI_el h
            refine reroot e1 (reroot (upd_other e2 rfl) (reroot (upd_other (upd_other e10 rfl) rfl) (reroot (upd_other (upd_other (upd_other e15 rfl) rfl) rfl) (reroot (upd_other (upd_other (upd_other (upd_other e17 rfl) rfl) rfl) rfl) (reroot (upd_other (upd_other (upd_other (upd_other (upd_other e18 rfl) rfl) rfl) rfl) rfl) ?_)))))
            refine wpc_block ?_
            obtain ⟨I, μ, hI, hr⟩ := h
            refine wpc_loopS (α := Sl × Int) (fun s ρ => ρ 10 = .slice s.1.a s.1.len s.1.cap ∧ ρ 18 = .int .i64 s.2 ∧ ρ 1 = .int .i64 i_1 ∧ ρ 2 = .int .i64 t2 ∧ ρ 15 = .slice t15.a t15.len t15.cap ∧ ρ 17 = .int .i64 t17) (fun s w => I s.1 s.2 w) (fun s w => μ s.1 s.2 w) (t10, t18) ⟨rfl, rfl, rfl, rfl, rfl, rfl⟩ hI ?_
            rintro ⟨t10, t18⟩ ρ w ⟨e10, e18, e1, e2, e15, e17⟩ hI
            have h := hr t10 t18 w hI
            clear hr
            obtain ⟨nx1, hnx⟩ : ∃ nx : Int → Int → Sl → Int → Sl → Int → World → Prop, nx = (fun i_1' t2' t15' t17' t10' t18' w' => (i_1' = i_1 ∧ t2' = t2 ∧ t15' = t15 ∧ t17' = t17) ∧ I t10' t18' w' ∧ μ t10' t18' w' < μ t10 t18 w) := ⟨_, rfl⟩
            rw [← hnx] at h
            refine wpc_norm (M := fun ρ w => asI .i64 (ρ 1) fun i_1 => asI .i64 (ρ 2) fun t2 => asL (ρ 15) fun t15 => asI .i64 (ρ 17) fun t17 => asL (ρ 10) fun t10 => asI .i64 (ρ 18) fun t18 => nx1 i_1 t2 t15 t17 t10 t18 w) ?_ (fun ρ w h => ?_)
            · skip
              refine reroot e1 (reroot (upd_other e2 rfl) (reroot (upd_other (upd_other e10 rfl) rfl) (reroot (upd_other (upd_other (upd_other e15 rfl) rfl) rfl) (reroot (upd_other (upd_other (upd_other (upd_other e17 rfl) rfl) rfl) rfl) (reroot (upd_other (upd_other (upd_other (upd_other (upd_other e18 rfl) rfl) rfl) rfl) rfl) ?_)))))
              exact pt_sound hmix _ (Eq.mp (by kernel_rfl) h)
            · skip
              obtain ⟨i_1', e1', h⟩ := asI_el h
              obtain ⟨t2', e2', h⟩ := asI_el h
              obtain ⟨t15', e15', h⟩ := asL_el h
              obtain ⟨t17', e17', h⟩ := asI_el h
              obtain ⟨t10', e10', h⟩ := asL_el h
              obtain ⟨t18', e18', h⟩ := asI_el h
              rw [hnx] at h
              obtain ⟨hu, hI2, hμ⟩ := h
              obtain ⟨rfl, rfl, rfl, rfl⟩ := hu
              exact ⟨(t10', t18'), ⟨e10', e18', e1', e2', e15', e17'⟩, hI2, hμ⟩
        · intro ρ w h
          obtain ⟨t10, e10, h⟩ := asL_el h
          obtain ⟨t15, e15, h⟩ := asL_el h
          obtain ⟨t17, e17, h⟩ := asI_el h
          refine reroot e10 (reroot (upd_other e15 rfl) (reroot (upd_other (upd_other e17 rfl) rfl) ?_))
          exact pt_sound hmix _ (Eq.mp (by kernel_rfl) h)

end Go.Proofs.Ytkajimndclhgaaa
