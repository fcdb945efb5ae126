/- PRINTED BY gen.py (own work): what calls come to, and the proofs of it. -/
import Derived.Test.YtkajimndclhgaaaVcJ
import Derived.Test.YtkajimndclhgaaaProg
namespace Go.Proofs.Ytkajimndclhgaaa
open Go Go.Proofs
set_option linter.unusedVariables false
set_option maxRecDepth 100000

/-! trove/trovelaw5.known -/
def trovelaw5_known  (Q : Value → World → Prop) (w : World) : Prop :=
  lt (⟨World.heapSize w, 0, none⟩ : Addr) fun a1 =>
  lt (World.alloc w (.cells ⟨[.int .i64 1, .int .i64 2, .int .i64 2]⟩ 3)) fun w2 =>
  Calls Try.prog 99 ⟨[.slice (some a1) 3 3, .bool false]⟩ w2 fun e3 w4 =>
  ∃ r5 : (Option Addr), ∃ r6 : Int, e3 = .returned (.tuple ⟨[.pointer r5, .int .i64 r6]⟩) ∧
  Calls Try.prog 97 ⟨[.slice (some a1) 3 3]⟩ w4 fun e7 w8 =>
  ∃ r9 : Sl, ∃ r10 : Int, e7 = .returned (.tuple ⟨[.slice r9.a r9.len r9.cap, .int .i64 r10]⟩) ∧
  Calls Try.prog 95 ⟨[.slice (some a1) 3 3]⟩ w8 fun e11 w12 =>
  ∃ r13 : Bool, ∃ r14 : Int, e11 = .returned (.tuple ⟨[.bool r13, .int .i64 r14]⟩) ∧
  lt (IntKind.i64.wrap (r6 + r10)) fun x15 =>
  lt (IntKind.i64.wrap (x15 + r14)) fun x16 =>
  br ((x16 : Int) != 0) (
  Q (.bool false) w12) (
  br (Option.isNone r5) (
  Q (.bool false) w12) (
  br (!r13) (
  Q (.bool false) w12) (
  lt (⟨World.heapSize w12, 0, none⟩ : Addr) fun a17 =>
  lt (World.alloc w12 (.cells ⟨[.int .u8 3]⟩ 5)) fun w18 =>
  Calls Try.prog 36 ⟨[.slice (some a17) 1 1]⟩ w18 fun e19 w20 =>
  ∃ r21 : (Option Addr), e19 = .returned (.pointer r21) ∧
  Calls Try.prog 102 ⟨[.pointer r5, .pointer r21]⟩ w20 fun e22 w23 =>
  ∃ r24 : Int, ∃ r25 : Int, e22 = .returned (.tuple ⟨[.int .i64 r24, .int .i64 r25]⟩) ∧
  br ((((r9.len : Nat) : Int) : Int) == 3) (
  ixS r9.a r9.len 2 1 fun a26 =>
  ldI .i64 w23 a26 fun x27 =>
  br ((x27 : Int) == 3) (
  br ((r24 : Int) == 2) (
  br ((r25 : Int) == 0) (
  lt (⟨World.heapSize w23, 0, none⟩ : Addr) fun a28 =>
  lt (World.alloc w23 (.cells ⟨[.int .i64 5, .int .i64 1, .int .i64 1]⟩ 3)) fun w29 =>
  Calls Try.prog 105 ⟨[.pointer r5, .slice (some a28) 3 3]⟩ w29 fun e30 w31 =>
  ∃ r32 : Int, e30 = .returned (.int .i64 r32) ∧
  Q (.bool ((r32 : Int) == 9)) w31) (
  Q (.bool false) w23)) (
  Q (.bool false) w23)) (
  Q (.bool false) w23)) (
  Q (.bool false) w23))))

theorem trovelaw5_known.ok  (Q : Value → World → Prop) (w : World) (h : trovelaw5_known  Q w) : Calls Try.prog 94 ⟨[]⟩ w (Ret Q) := by
  refine calls_of_wpc [.tmp 0] Try.func94 rfl rfl rfl rfl ?_
  exact pt_sound hmix _ (Eq.mp (by kernel_rfl) h)

/-! trove/trovelaw5.ints -/
def trovelaw5_ints.j2  (Q : Value → World → Prop) (w : World) : Prop :=
  Q (.bool true) w

def trovelaw5_ints.b1 (a_0 : Sl) (b_1 : Sl) (i_5 : Int) (Q : Value → World → Prop) (nx1 : Sl → Sl → Int → World → Prop) (w : World) : Prop :=
  br (decide ((i_5 : Int) < ((a_0.len : Nat) : Int))) (
  lt (World.drew w) fun w1 =>
  ixS a_0.a a_0.len i_5 1 fun a2 =>
  ldI .i64 w1 a2 fun x3 =>
  ixS b_1.a b_1.len i_5 1 fun a4 =>
  ldI .i64 w1 a4 fun x5 =>
  br ((x3 : Int) != x5) (
  Q (.bool false) w1) (
  lt (IntKind.i64.wrap (i_5 + 1)) fun x6 =>
  nx1 a_0 b_1 x6 w1)) (
  trovelaw5_ints.j2 Q w)

def trovelaw5_ints.l1 (a_0 : Sl) (b_1 : Sl) (i_5 : Int) (Q : Value → World → Prop) (w : World) : Prop :=
  ∃ (I : Int → World → Prop) (μ : Int → World → Nat), I i_5 w ∧ ∀ i_5 : Int, ∀ w : World, I i_5 w → trovelaw5_ints.b1 a_0 b_1 i_5 Q (fun a_0' b_1' i_5' w' => (a_0' = a_0 ∧ b_1' = b_1) ∧ I i_5' w' ∧ μ i_5' w' < μ i_5 w) w

def trovelaw5_ints.j3 (a_0 : Sl) (b_1 : Sl) (i_5 : Int) (Q : Value → World → Prop) (w : World) : Prop :=
  trovelaw5_ints.l1 a_0 b_1 i_5 Q w

def trovelaw5_ints.j1 (a_0 : Sl) (b_1 : Sl) (Q : Value → World → Prop) (w : World) : Prop :=
  trovelaw5_ints.j3 a_0 b_1 0 Q w

def trovelaw5_ints (a_0 : Sl) (b_1 : Sl) (Q : Value → World → Prop) (w : World) : Prop :=
  br ((((a_0.len : Nat) : Int) : Int) != ((b_1.len : Nat) : Int)) (
  Q (.bool false) w) (
  trovelaw5_ints.j1 a_0 b_1 Q w)

theorem trovelaw5_ints.ok (a_0 : Sl) (b_1 : Sl) (Q : Value → World → Prop) (w : World) (h : trovelaw5_ints a_0 b_1 Q w) : Calls Try.prog 101 ⟨[.slice a_0.a a_0.len a_0.cap, .slice b_1.a b_1.len b_1.cap]⟩ w (Ret Q) := by
  refine calls_of_wpc [.tmp 4] Try.func101 rfl rfl rfl rfl ?_
  refine wpc_pre2 hmix (fun ρ w => asL (ρ 0) fun a_0 => asL (ρ 1) fun b_1 => trovelaw5_ints.j1 a_0 b_1 Q w) (Eq.mp (by kernel_rfl) h) ?_
  intro ρ w h
  obtain ⟨a_0, e0, h⟩ := asL_el h
  obtain ⟨b_1, e1, h⟩ := asL_el h
  refine reroot e0 (reroot (upd_other e1 rfl) ?_)
  refine wpc_seq (fun ρ w =>  trovelaw5_ints.j2  Q w) ?_ ?_
  · skip
    refine wpc_seq (fun ρ w => asL (ρ 0) fun a_0 => asL (ρ 1) fun b_1 => asI .i64 (ρ 5) fun i_5 => trovelaw5_ints.j3 a_0 b_1 i_5 Q w) ?_ ?_
    · skip
      exact pt_sound hmix _ (Eq.mp (by kernel_rfl) h)
    · intro ρ w h
      obtain ⟨a_0, e0, h⟩ := asL_el h
      obtain ⟨b_1, e1, h⟩ := asL_el h
      obtain ⟨i_5, e5, h⟩ := asI_el h
      refine reroot e0 (reroot (upd_other e1 rfl) (reroot (upd_other (upd_other e5 rfl) rfl) ?_))
      refine wpc_block ?_
      obtain ⟨I, μ, hI, hr⟩ := h
      refine wpc_loopS (α := Int) (fun s ρ => ρ 5 = .int .i64 s ∧ ρ 0 = .slice a_0.a a_0.len a_0.cap ∧ ρ 1 = .slice b_1.a b_1.len b_1.cap) (fun s w => I s w) (fun s w => μ s w) i_5 ⟨rfl, rfl, rfl⟩ hI ?_
      rintro i_5 ρ w ⟨e5, e0, e1⟩ hI
      have h := hr i_5 w hI
      clear hr
      obtain ⟨nx1, hnx⟩ : ∃ nx : Sl → Sl → Int → World → Prop, nx = (fun a_0' b_1' i_5' w' => (a_0' = a_0 ∧ b_1' = b_1) ∧ I i_5' w' ∧ μ i_5' w' < μ i_5 w) := ⟨_, rfl⟩
      rw [← hnx] at h
      refine wpc_norm (M := fun ρ w => asL (ρ 0) fun a_0 => asL (ρ 1) fun b_1 => asI .i64 (ρ 5) fun i_5 => nx1 a_0 b_1 i_5 w) ?_ (fun ρ w h => ?_)
      · skip
        refine reroot e0 (reroot (upd_other e1 rfl) (reroot (upd_other (upd_other e5 rfl) rfl) ?_))
        exact pt_sound hmix _ (Eq.mp (by kernel_rfl) h)
      · skip
        obtain ⟨a_0', e0', h⟩ := asL_el h
        obtain ⟨b_1', e1', h⟩ := asL_el h
        obtain ⟨i_5', e5', h⟩ := asI_el h
        rw [hnx] at h
        obtain ⟨hu, hI2, hμ⟩ := h
        obtain ⟨rfl, rfl⟩ := hu
        exact ⟨i_5', ⟨e5', e0', e1'⟩, hI2, hμ⟩
  · intro ρ w h
    exact pt_sound hmix _ (Eq.mp (by kernel_rfl) h)

/-! trove/trovelaw5.HuffCodes -/
def trovelaw5_HuffCodes (d_0 : Sl) (i_1 : Bool) (Q : Value → World → Prop) (w : World) : Prop :=
  Calls Try.prog 94 ⟨[]⟩ w fun e1 w2 =>
  ∃ r3 : Bool, e1 = .returned (.bool r3) ∧
  br (!r3) (
  Q (.bool false) w2) (
  br (decide ((((d_0.len : Nat) : Int) : Int) > 400)) (
  Q (.bool true) w2) (
  Calls Try.prog 95 ⟨[.slice d_0.a d_0.len d_0.cap]⟩ w2 fun e4 w5 =>
  ∃ r6 : Bool, ∃ r7 : Int, e4 = .returned (.tuple ⟨[.bool r6, .int .i64 r7]⟩) ∧
  Calls Try.prog 96 ⟨[.slice d_0.a d_0.len d_0.cap]⟩ w5 fun e8 w9 =>
  ∃ r10 : Bool, ∃ r11 : Int, e8 = .returned (.tuple ⟨[.bool r10, .int .i64 r11]⟩) ∧
  Calls Try.prog 97 ⟨[.slice d_0.a d_0.len d_0.cap]⟩ w9 fun e12 w13 =>
  ∃ r14 : Sl, ∃ r15 : Int, e12 = .returned (.tuple ⟨[.slice r14.a r14.len r14.cap, .int .i64 r15]⟩) ∧
  Calls Try.prog 98 ⟨[.slice d_0.a d_0.len d_0.cap]⟩ w13 fun e16 w17 =>
  ∃ r18 : Sl, ∃ r19 : Int, e16 = .returned (.tuple ⟨[.slice r18.a r18.len r18.cap, .int .i64 r19]⟩) ∧
  Calls Try.prog 99 ⟨[.slice d_0.a d_0.len d_0.cap, .bool i_1]⟩ w17 fun e20 w21 =>
  ∃ r22 : (Option Addr), ∃ r23 : Int, e20 = .returned (.tuple ⟨[.pointer r22, .int .i64 r23]⟩) ∧
  Calls Try.prog 100 ⟨[.slice d_0.a d_0.len d_0.cap, .bool i_1]⟩ w21 fun e24 w25 =>
  ∃ r26 : (Option Addr), ∃ r27 : Int, e24 = .returned (.tuple ⟨[.pointer r26, .int .i64 r27]⟩) ∧
  br (r6 == r10) (
  br ((r7 : Int) == r11) (
  Calls Try.prog 101 ⟨[.slice r14.a r14.len r14.cap, .slice r18.a r18.len r18.cap]⟩ w25 fun e28 w29 =>
  ∃ r30 : Bool, e28 = .returned (.bool r30) ∧
  br r30 (
  br ((r15 : Int) == r19) (
  br ((r23 : Int) == r27) (
  Q (.bool ((Option.isNone r22) == (Option.isNone r26))) w29) (
  Q (.bool false) w29)) (
  Q (.bool false) w29)) (
  Q (.bool false) w29)) (
  Q (.bool false) w25)) (
  Q (.bool false) w25)))

theorem trovelaw5_HuffCodes.ok (d_0 : Sl) (i_1 : Bool) (Q : Value → World → Prop) (w : World) (h : trovelaw5_HuffCodes d_0 i_1 Q w) : Calls Try.prog 19 ⟨[.slice d_0.a d_0.len d_0.cap, .bool i_1]⟩ w (Ret Q) := by
  refine calls_of_wpc [.tmp 4] Try.func19 rfl rfl rfl rfl ?_
  exact pt_sound hmix _ (Eq.mp (by kernel_rfl) h)

/-! trove/trovelaw5.HuffReads -/
def trovelaw5_HuffReads.j6  (Q : Value → World → Prop) (w : World) : Prop :=
  Q (.bool true) w

def trovelaw5_HuffReads.b1 (t7 : (Option Addr)) (t9 : (Option Addr)) (t11 : (Option Addr)) (t12 : (Option Addr)) (t13 : Int) (Q : Value → World → Prop) (nx1 : (Option Addr) → (Option Addr) → (Option Addr) → (Option Addr) → Int → World → Prop) (w : World) : Prop :=
  br (decide ((t13 : Int) < 2000)) (
  Calls Try.prog 102 ⟨[.pointer t7, .pointer t11]⟩ w fun e1 w2 =>
  ∃ r3 : Int, ∃ r4 : Int, e1 = .returned (.tuple ⟨[.int .i64 r3, .int .i64 r4]⟩) ∧
  Calls Try.prog 103 ⟨[.pointer t9, .pointer t12]⟩ w2 fun e5 w6 =>
  ∃ r7 : Int, ∃ r8 : Int, e5 = .returned (.tuple ⟨[.int .i64 r7, .int .i64 r8]⟩) ∧
  br ((r3 : Int) != r7) (
  Q (.bool false) w6) (
  br ((r4 : Int) != r8) (
  Q (.bool false) w6) (
  br ((r8 : Int) != 0) (
  Q (.bool true) w6) (
  Calls Try.prog 41 ⟨[.pointer t11]⟩ w6 fun e9 w10 =>
  ∃ r11 : Int, e9 = .returned (.int .i64 r11) ∧
  Calls Try.prog 53 ⟨[.pointer t12]⟩ w10 fun e12 w13 =>
  ∃ r14 : Int, e12 = .returned (.int .i64 r14) ∧
  br ((r11 : Int) != r14) (
  Q (.bool false) w13) (
  lt (IntKind.i64.wrap (t13 + 1)) fun x15 =>
  nx1 t7 t9 t11 t12 x15 w13))))) (
  trovelaw5_HuffReads.j6 Q w)

def trovelaw5_HuffReads.l1 (t7 : (Option Addr)) (t9 : (Option Addr)) (t11 : (Option Addr)) (t12 : (Option Addr)) (t13 : Int) (Q : Value → World → Prop) (w : World) : Prop :=
  ∃ (I : Int → World → Prop) (μ : Int → World → Nat), I t13 w ∧ ∀ t13 : Int, ∀ w : World, I t13 w → trovelaw5_HuffReads.b1 t7 t9 t11 t12 t13 Q (fun t7' t9' t11' t12' t13' w' => (t7' = t7 ∧ t9' = t9 ∧ t11' = t11 ∧ t12' = t12) ∧ I t13' w' ∧ μ t13' w' < μ t13 w) w

def trovelaw5_HuffReads.j7 (t7 : (Option Addr)) (t9 : (Option Addr)) (t11 : (Option Addr)) (t12 : (Option Addr)) (t13 : Int) (Q : Value → World → Prop) (w : World) : Prop :=
  trovelaw5_HuffReads.l1 t7 t9 t11 t12 t13 Q w

def trovelaw5_HuffReads.j5 (t7 : (Option Addr)) (t9 : (Option Addr)) (t11 : (Option Addr)) (t12 : (Option Addr)) (Q : Value → World → Prop) (w : World) : Prop :=
  trovelaw5_HuffReads.j7 t7 t9 t11 t12 0 Q w

def trovelaw5_HuffReads.j4 (t2 : Sl) (t7 : (Option Addr)) (t9 : (Option Addr)) (Q : Value → World → Prop) (w : World) : Prop :=
  Calls Try.prog 36 ⟨[.slice t2.a t2.len t2.cap]⟩ w fun e16 w17 =>
  ∃ r18 : (Option Addr), e16 = .returned (.pointer r18) ∧
  lt (⟨World.heapSize w17, 0, none⟩ : Addr) fun a19 =>
  lt (World.alloc w17 (.cells (⟨[.slice t2.a t2.len t2.cap, .int .i64 0]⟩ : Array Value) 47)) fun w20 =>
  trovelaw5_HuffReads.j5 t7 t9 r18 (some a19) Q w20

def trovelaw5_HuffReads.j8 (t2 : Sl) (t7 : (Option Addr)) (t8 : Int) (t9 : (Option Addr)) (t10 : Int) (t50 : Bool) (Q : Value → World → Prop) (w : World) : Prop :=
  br t50 (
  br ((t8 : Int) == t10) (
  Q (.bool ((Option.isNone t7) == ((t10 : Int) != 0))) w) (
  Q (.bool false) w)) (
  trovelaw5_HuffReads.j4 t2 t7 t9 Q w)

def trovelaw5_HuffReads.j3 (t2 : Sl) (t7 : (Option Addr)) (t8 : Int) (t9 : (Option Addr)) (t10 : Int) (Q : Value → World → Prop) (w : World) : Prop :=
  br ((t8 : Int) != t10) (
  trovelaw5_HuffReads.j8 t2 t7 t8 t9 t10 true Q w) (
  br ((t10 : Int) != 0) (
  trovelaw5_HuffReads.j8 t2 t7 t8 t9 t10 true Q w) (
  trovelaw5_HuffReads.j8 t2 t7 t8 t9 t10 (Option.isNone t7) Q w))

def trovelaw5_HuffReads.j2 (d_0 : Sl) (i_1 : Bool) (t2 : Sl) (Q : Value → World → Prop) (w : World) : Prop :=
  Calls Try.prog 99 ⟨[.slice d_0.a d_0.len d_0.cap, .bool i_1]⟩ w fun e21 w22 =>
  ∃ r23 : (Option Addr), ∃ r24 : Int, e21 = .returned (.tuple ⟨[.pointer r23, .int .i64 r24]⟩) ∧
  Calls Try.prog 100 ⟨[.slice d_0.a d_0.len d_0.cap, .bool i_1]⟩ w22 fun e25 w26 =>
  ∃ r27 : (Option Addr), ∃ r28 : Int, e25 = .returned (.tuple ⟨[.pointer r27, .int .i64 r28]⟩) ∧
  trovelaw5_HuffReads.j3 t2 r23 r24 r27 r28 Q w26

def trovelaw5_HuffReads.j1 (d_0 : Sl) (i_1 : Bool) (t2 : Sl) (Q : Value → World → Prop) (w : World) : Prop :=
  Calls Try.prog 94 ⟨[]⟩ w fun e29 w30 =>
  ∃ r31 : Bool, e29 = .returned (.bool r31) ∧
  br (!r31) (
  Q (.bool false) w30) (
  br (decide ((((d_0.len : Nat) : Int) : Int) > 400)) (
  Q (.bool true) w30) (
  br (decide ((((t2.len : Nat) : Int) : Int) > 200)) (
  Q (.bool true) w30) (
  trovelaw5_HuffReads.j2 d_0 i_1 t2 Q w30)))

def trovelaw5_HuffReads (d_0 : Sl) (i_1 : Bool) (t2 : Sl) (Q : Value → World → Prop) (w : World) : Prop :=
  trovelaw5_HuffReads.j1 d_0 i_1 t2 Q w

theorem trovelaw5_HuffReads.ok (d_0 : Sl) (i_1 : Bool) (t2 : Sl) (Q : Value → World → Prop) (w : World) (h : trovelaw5_HuffReads d_0 i_1 t2 Q w) : Calls Try.prog 20 ⟨[.slice d_0.a d_0.len d_0.cap, .bool i_1, .slice t2.a t2.len t2.cap]⟩ w (Ret Q) := by
  refine calls_of_wpc [.tmp 6] Try.func20 rfl rfl rfl rfl ?_
  refine wpc_seq (fun ρ w => asL (ρ 0) fun d_0 => asB (ρ 1) fun i_1 => asL (ρ 2) fun t2 => trovelaw5_HuffReads.j1 d_0 i_1 t2 Q w) ?_ ?_
  · skip
    exact pt_sound hmix _ (Eq.mp (by kernel_rfl) h)
  · intro ρ w h
    obtain ⟨d_0, e0, h⟩ := asL_el h
    obtain ⟨i_1, e1, h⟩ := asB_el h
    obtain ⟨t2, e2, h⟩ := asL_el h
    refine reroot e0 (reroot (upd_other e1 rfl) (reroot (upd_other (upd_other e2 rfl) rfl) ?_))
    refine wpc_pre2 hmix (fun ρ w => asL (ρ 0) fun d_0 => asB (ρ 1) fun i_1 => asL (ρ 2) fun t2 => trovelaw5_HuffReads.j2 d_0 i_1 t2 Q w) (Eq.mp (by kernel_rfl) h) ?_
    intro ρ w h
    obtain ⟨d_0, e0, h⟩ := asL_el h
    obtain ⟨i_1, e1, h⟩ := asB_el h
    obtain ⟨t2, e2, h⟩ := asL_el h
    refine reroot e0 (reroot (upd_other e1 rfl) (reroot (upd_other (upd_other e2 rfl) rfl) ?_))
    refine wpc_pre2 hmix (fun ρ w => asL (ρ 2) fun t2 => asP (ρ 7) fun t7 => asI .i64 (ρ 8) fun t8 => asP (ρ 9) fun t9 => asI .i64 (ρ 10) fun t10 => trovelaw5_HuffReads.j3 t2 t7 t8 t9 t10 Q w) (Eq.mp (by kernel_rfl) h) ?_
    intro ρ w h
    obtain ⟨t2, e2, h⟩ := asL_el h
    obtain ⟨t7, e7, h⟩ := asP_el h
    obtain ⟨t8, e8, h⟩ := asI_el h
    obtain ⟨t9, e9, h⟩ := asP_el h
    obtain ⟨t10, e10, h⟩ := asI_el h
    refine reroot e2 (reroot (upd_other e7 rfl) (reroot (upd_other (upd_other e8 rfl) rfl) (reroot (upd_other (upd_other (upd_other e9 rfl) rfl) rfl) (reroot (upd_other (upd_other (upd_other (upd_other e10 rfl) rfl) rfl) rfl) ?_))))
    refine wpc_seq (fun ρ w => asL (ρ 2) fun t2 => asP (ρ 7) fun t7 => asP (ρ 9) fun t9 => trovelaw5_HuffReads.j4 t2 t7 t9 Q w) ?_ ?_
    · skip
      refine wpc_seq (fun ρ w => asL (ρ 2) fun t2 => asP (ρ 7) fun t7 => asI .i64 (ρ 8) fun t8 => asP (ρ 9) fun t9 => asI .i64 (ρ 10) fun t10 => asB (ρ 50) fun t50 => trovelaw5_HuffReads.j8 t2 t7 t8 t9 t10 t50 Q w) ?_ ?_
      · skip
        exact pt_sound hmix _ (Eq.mp (by kernel_rfl) h)
      · intro ρ w h
        obtain ⟨t2, e2, h⟩ := asL_el h
        obtain ⟨t7, e7, h⟩ := asP_el h
        obtain ⟨t8, e8, h⟩ := asI_el h
        obtain ⟨t9, e9, h⟩ := asP_el h
        obtain ⟨t10, e10, h⟩ := asI_el h
        obtain ⟨t50, e50, h⟩ := asB_el h
        refine reroot e2 (reroot (upd_other e7 rfl) (reroot (upd_other (upd_other e8 rfl) rfl) (reroot (upd_other (upd_other (upd_other e9 rfl) rfl) rfl) (reroot (upd_other (upd_other (upd_other (upd_other e10 rfl) rfl) rfl) rfl) (reroot (upd_other (upd_other (upd_other (upd_other (upd_other e50 rfl) rfl) rfl) rfl) rfl) ?_)))))
        exact pt_sound hmix _ (Eq.mp (by kernel_rfl) h)
    · intro ρ w h
      obtain ⟨t2, e2, h⟩ := asL_el h
      obtain ⟨t7, e7, h⟩ := asP_el h
      obtain ⟨t9, e9, h⟩ := asP_el h
      refine reroot e2 (reroot (upd_other e7 rfl) (reroot (upd_other (upd_other e9 rfl) rfl) ?_))
      refine wpc_pre2 hmix (fun ρ w => asP (ρ 7) fun t7 => asP (ρ 9) fun t9 => asP (ρ 11) fun t11 => asP (ρ 12) fun t12 => trovelaw5_HuffReads.j5 t7 t9 t11 t12 Q w) (Eq.mp (by kernel_rfl) h) ?_
      intro ρ w h
      obtain ⟨t7, e7, h⟩ := asP_el h
      obtain ⟨t9, e9, h⟩ := asP_el h
      obtain ⟨t11, e11, h⟩ := asP_el h
      obtain ⟨t12, e12, h⟩ := asP_el h
      refine reroot e7 (reroot (upd_other e9 rfl) (reroot (upd_other (upd_other e11 rfl) rfl) (reroot (upd_other (upd_other (upd_other e12 rfl) rfl) rfl) ?_)))
      refine wpc_seq (fun ρ w =>  trovelaw5_HuffReads.j6  Q w) ?_ ?_
      · skip
        refine wpc_seq (fun ρ w => asP (ρ 7) fun t7 => asP (ρ 9) fun t9 => asP (ρ 11) fun t11 => asP (ρ 12) fun t12 => asI .i64 (ρ 13) fun t13 => trovelaw5_HuffReads.j7 t7 t9 t11 t12 t13 Q w) ?_ ?_
        · skip
          exact pt_sound hmix _ (Eq.mp (by kernel_rfl) h)
        · intro ρ w h
          obtain ⟨t7, e7, h⟩ := asP_el h
          obtain ⟨t9, e9, h⟩ := asP_el h
          obtain ⟨t11, e11, h⟩ := asP_el h
          obtain ⟨t12, e12, h⟩ := asP_el h
          obtain ⟨t13, e13, h⟩ := asI_el h
          refine reroot e7 (reroot (upd_other e9 rfl) (reroot (upd_other (upd_other e11 rfl) rfl) (reroot (upd_other (upd_other (upd_other e12 rfl) rfl) rfl) (reroot (upd_other (upd_other (upd_other (upd_other e13 rfl) rfl) rfl) rfl) ?_))))
          refine wpc_block ?_
          obtain ⟨I, μ, hI, hr⟩ := h
          refine wpc_loopS (α := Int) (fun s ρ => ρ 13 = .int .i64 s ∧ ρ 7 = .pointer t7 ∧ ρ 9 = .pointer t9 ∧ ρ 11 = .pointer t11 ∧ ρ 12 = .pointer t12) (fun s w => I s w) (fun s w => μ s w) t13 ⟨rfl, rfl, rfl, rfl, rfl⟩ hI ?_
          rintro t13 ρ w ⟨e13, e7, e9, e11, e12⟩ hI
          have h := hr t13 w hI
          clear hr
          obtain ⟨nx1, hnx⟩ : ∃ nx : (Option Addr) → (Option Addr) → (Option Addr) → (Option Addr) → Int → World → Prop, nx = (fun t7' t9' t11' t12' t13' w' => (t7' = t7 ∧ t9' = t9 ∧ t11' = t11 ∧ t12' = t12) ∧ I t13' w' ∧ μ t13' w' < μ t13 w) := ⟨_, rfl⟩
          rw [← hnx] at h
          refine wpc_norm (M := fun ρ w => asP (ρ 7) fun t7 => asP (ρ 9) fun t9 => asP (ρ 11) fun t11 => asP (ρ 12) fun t12 => asI .i64 (ρ 13) fun t13 => nx1 t7 t9 t11 t12 t13 w) ?_ (fun ρ w h => ?_)
          · skip
            refine reroot e7 (reroot (upd_other e9 rfl) (reroot (upd_other (upd_other e11 rfl) rfl) (reroot (upd_other (upd_other (upd_other e12 rfl) rfl) rfl) (reroot (upd_other (upd_other (upd_other (upd_other e13 rfl) rfl) rfl) rfl) ?_))))
            exact pt_sound hmix _ (Eq.mp (by kernel_rfl) h)
          · skip
            obtain ⟨t7', e7', h⟩ := asP_el h
            obtain ⟨t9', e9', h⟩ := asP_el h
            obtain ⟨t11', e11', h⟩ := asP_el h
            obtain ⟨t12', e12', h⟩ := asP_el h
            obtain ⟨t13', e13', h⟩ := asI_el h
            rw [hnx] at h
            obtain ⟨hu, hI2, hμ⟩ := h
            obtain ⟨rfl, rfl, rfl, rfl⟩ := hu
            exact ⟨t13', ⟨e13', e7', e9', e11', e12'⟩, hI2, hμ⟩
      · intro ρ w h
        exact pt_sound hmix _ (Eq.mp (by kernel_rfl) h)

/-! trove/trovelaw5.HuffRoom -/
def trovelaw5_HuffRoom.j3 (d_0 : Int) (i_1 : Int) (t5 : Sl) (Q : Value → World → Prop) (w : World) : Prop :=
  Calls Try.prog 95 ⟨[.slice t5.a t5.len t5.cap]⟩ w fun e1 w2 =>
  ∃ r3 : Bool, ∃ r4 : Int, e1 = .returned (.tuple ⟨[.bool r3, .int .i64 r4]⟩) ∧
  lt (⟨World.heapSize w2, 0, none⟩ : Addr) fun a5 =>
  lt (World.alloc w2 (.cells ⟨[]⟩ 3)) fun w6 =>
  rdO w6 t5.a (t5.len * 1) fun c7 =>
  apK Try.prog 3 w6 (some a5) 0 0 t5.len c7 fun s8 w9 =>
  lt (⟨World.heapSize w9, 0, none⟩ : Addr) fun a10 =>
  lt (World.alloc w9 (.cells ⟨[.int .i64 15]⟩ 3)) fun w11 =>
  rdO w11 (some a10) (1 * 1) fun c12 =>
  apK Try.prog 3 w11 s8.a s8.len s8.cap 1 c12 fun s13 w14 =>
  Calls Try.prog 95 ⟨[.slice s13.a s13.len s13.cap]⟩ w14 fun e15 w16 =>
  ∃ r17 : Bool, ∃ r18 : Int, e15 = .returned (.tuple ⟨[.bool r17, .int .i64 r18]⟩) ∧
  lt (⟨World.heapSize w16, 0, none⟩ : Addr) fun a19 =>
  lt (World.alloc w16 (.cells ⟨[]⟩ 3)) fun w20 =>
  rdO w20 t5.a (t5.len * 1) fun c21 =>
  apK Try.prog 3 w20 (some a19) 0 0 t5.len c21 fun s22 w23 =>
  ixS s22.a s22.len i_1 1 fun a24 =>
  st w23 a24 (.int .i64 0) fun w25 =>
  Calls Try.prog 95 ⟨[.slice s22.a s22.len s22.cap]⟩ w25 fun e26 w27 =>
  ∃ r28 : Bool, ∃ r29 : Int, e26 = .returned (.tuple ⟨[.bool r28, .int .i64 r29]⟩) ∧
  Calls Try.prog 99 ⟨[.slice s22.a s22.len s22.cap, .bool true]⟩ w27 fun e30 w31 =>
  ∃ r32 : (Option Addr), ∃ r33 : Int, e30 = .returned (.tuple ⟨[.pointer r32, .int .i64 r33]⟩) ∧
  br r3 (
  br ((r4 : Int) == 0) (
  br ((r18 : Int) == 2) (
  br (!r28) (
  br ((r29 : Int) == 0) (
  br (((r33 : Int) == 0) == ((d_0 : Int) == 1)) (
  Q (.bool ((!(Option.isNone r32)) == ((d_0 : Int) == 1))) w31) (
  Q (.bool false) w31)) (
  Q (.bool false) w31)) (
  Q (.bool false) w31)) (
  Q (.bool false) w31)) (
  Q (.bool false) w31)) (
  Q (.bool false) w31)

def trovelaw5_HuffRoom.b1 (d_0 : Int) (i_1 : Int) (t5 : Sl) (t6 : Int) (Q : Value → World → Prop) (nx1 : Int → Int → Sl → Int → World → Prop) (w : World) : Prop :=
  br (decide ((t6 : Int) < ((t5.len : Nat) : Int))) (
  ixS t5.a t5.len t6 1 fun a34 =>
  st w a34 (.int .i64 d_0) fun w35 =>
  lt (IntKind.i64.wrap (t6 + 1)) fun x36 =>
  nx1 d_0 i_1 t5 x36 w35) (
  trovelaw5_HuffRoom.j3 d_0 i_1 t5 Q w)

def trovelaw5_HuffRoom.l1 (d_0 : Int) (i_1 : Int) (t5 : Sl) (t6 : Int) (Q : Value → World → Prop) (w : World) : Prop :=
  ∃ (I : Int → World → Prop) (μ : Int → World → Nat), I t6 w ∧ ∀ t6 : Int, ∀ w : World, I t6 w → trovelaw5_HuffRoom.b1 d_0 i_1 t5 t6 Q (fun d_0' i_1' t5' t6' w' => (d_0' = d_0 ∧ i_1' = i_1 ∧ t5' = t5) ∧ I t6' w' ∧ μ t6' w' < μ t6 w) w

def trovelaw5_HuffRoom.j4 (d_0 : Int) (i_1 : Int) (t5 : Sl) (t6 : Int) (Q : Value → World → Prop) (w : World) : Prop :=
  trovelaw5_HuffRoom.l1 d_0 i_1 t5 t6 Q w

def trovelaw5_HuffRoom.j2 (d_0 : Int) (i_1 : Int) (t5 : Sl) (Q : Value → World → Prop) (w : World) : Prop :=
  trovelaw5_HuffRoom.j4 d_0 i_1 t5 0 Q w

def trovelaw5_HuffRoom.j1 (d_0 : Int) (i_1 : Int) (Q : Value → World → Prop) (w : World) : Prop :=
  br (decide ((d_0 : Int) < 1)) (
  Q (.bool true) w) (
  br (decide ((d_0 : Int) > 8)) (
  Q (.bool true) w) (
  br (decide ((i_1 : Int) < 0)) (
  Q (.bool true) w) (
  lt (IntKind.u64.wrap d_0) fun x37 =>
  (0 : Int) ≤ x37 ∧
  lt (shlV .i64 1 x37) fun x38 =>
  br (decide ((i_1 : Int) ≥ x38)) (
  Q (.bool true) w) (
  lt (IntKind.u64.wrap d_0) fun x39 =>
  (0 : Int) ≤ x39 ∧
  lt (shlV .i64 1 x39) fun x40 =>
  mkK Try.prog 3 w x40 x40 fun s41 w42 =>
  trovelaw5_HuffRoom.j2 d_0 i_1 s41 Q w42))))

def trovelaw5_HuffRoom (d_0 : Int) (i_1 : Int) (Q : Value → World → Prop) (w : World) : Prop :=
  Calls Try.prog 94 ⟨[]⟩ w fun e43 w44 =>
  ∃ r45 : Bool, e43 = .returned (.bool r45) ∧
  br (!r45) (
  Q (.bool false) w44) (
  trovelaw5_HuffRoom.j1 d_0 i_1 Q w44)

theorem trovelaw5_HuffRoom.ok (d_0 : Int) (i_1 : Int) (Q : Value → World → Prop) (w : World) (h : trovelaw5_HuffRoom d_0 i_1 Q w) : Calls Try.prog 21 ⟨[.int .i64 d_0, .int .i64 i_1]⟩ w (Ret Q) := by
  refine calls_of_wpc [.tmp 4] Try.func21 rfl rfl rfl rfl ?_
  refine wpc_pre2 hmix (fun ρ w => asI .i64 (ρ 0) fun d_0 => asI .i64 (ρ 1) fun i_1 => trovelaw5_HuffRoom.j1 d_0 i_1 Q w) (Eq.mp (by kernel_rfl) h) ?_
  intro ρ w h
  obtain ⟨d_0, e0, h⟩ := asI_el h
  obtain ⟨i_1, e1, h⟩ := asI_el h
  refine reroot e0 (reroot (upd_other e1 rfl) ?_)
  refine wpc_pre2 hmix (fun ρ w => asI .i64 (ρ 0) fun d_0 => asI .i64 (ρ 1) fun i_1 => asL (ρ 5) fun t5 => trovelaw5_HuffRoom.j2 d_0 i_1 t5 Q w) (Eq.mp (by kernel_rfl) h) ?_
  intro ρ w h
  obtain ⟨d_0, e0, h⟩ := asI_el h
  obtain ⟨i_1, e1, h⟩ := asI_el h
  obtain ⟨t5, e5, h⟩ := asL_el h
  refine reroot e0 (reroot (upd_other e1 rfl) (reroot (upd_other (upd_other e5 rfl) rfl) ?_))
  refine wpc_seq (fun ρ w => asI .i64 (ρ 0) fun d_0 => asI .i64 (ρ 1) fun i_1 => asL (ρ 5) fun t5 => trovelaw5_HuffRoom.j3 d_0 i_1 t5 Q w) ?_ ?_
  · skip
    refine wpc_seq (fun ρ w => asI .i64 (ρ 0) fun d_0 => asI .i64 (ρ 1) fun i_1 => asL (ρ 5) fun t5 => asI .i64 (ρ 6) fun t6 => trovelaw5_HuffRoom.j4 d_0 i_1 t5 t6 Q w) ?_ ?_
    · skip
      exact pt_sound hmix _ (Eq.mp (by kernel_rfl) h)
    · intro ρ w h
      obtain ⟨d_0, e0, h⟩ := asI_el h
      obtain ⟨i_1, e1, h⟩ := asI_el h
      obtain ⟨t5, e5, h⟩ := asL_el h
      obtain ⟨t6, e6, h⟩ := asI_el h
      refine reroot e0 (reroot (upd_other e1 rfl) (reroot (upd_other (upd_other e5 rfl) rfl) (reroot (upd_other (upd_other (upd_other e6 rfl) rfl) rfl) ?_)))
      refine wpc_block ?_
      obtain ⟨I, μ, hI, hr⟩ := h
      refine wpc_loopS (α := Int) (fun s ρ => ρ 6 = .int .i64 s ∧ ρ 0 = .int .i64 d_0 ∧ ρ 1 = .int .i64 i_1 ∧ ρ 5 = .slice t5.a t5.len t5.cap) (fun s w => I s w) (fun s w => μ s w) t6 ⟨rfl, rfl, rfl, rfl⟩ hI ?_
      rintro t6 ρ w ⟨e6, e0, e1, e5⟩ hI
      have h := hr t6 w hI
      clear hr
      obtain ⟨nx1, hnx⟩ : ∃ nx : Int → Int → Sl → Int → World → Prop, nx = (fun d_0' i_1' t5' t6' w' => (d_0' = d_0 ∧ i_1' = i_1 ∧ t5' = t5) ∧ I t6' w' ∧ μ t6' w' < μ t6 w) := ⟨_, rfl⟩
      rw [← hnx] at h
      refine wpc_norm (M := fun ρ w => asI .i64 (ρ 0) fun d_0 => asI .i64 (ρ 1) fun i_1 => asL (ρ 5) fun t5 => asI .i64 (ρ 6) fun t6 => nx1 d_0 i_1 t5 t6 w) ?_ (fun ρ w h => ?_)
      · skip
        refine reroot e0 (reroot (upd_other e1 rfl) (reroot (upd_other (upd_other e5 rfl) rfl) (reroot (upd_other (upd_other (upd_other e6 rfl) rfl) rfl) ?_)))
        exact pt_sound hmix _ (Eq.mp (by kernel_rfl) h)
      · skip
        obtain ⟨d_0', e0', h⟩ := asI_el h
        obtain ⟨i_1', e1', h⟩ := asI_el h
        obtain ⟨t5', e5', h⟩ := asL_el h
        obtain ⟨t6', e6', h⟩ := asI_el h
        rw [hnx] at h
        obtain ⟨hu, hI2, hμ⟩ := h
        obtain ⟨rfl, rfl, rfl⟩ := hu
        exact ⟨t6', ⟨e6', e0', e1', e5'⟩, hI2, hμ⟩
  · intro ρ w h
    obtain ⟨d_0, e0, h⟩ := asI_el h
    obtain ⟨i_1, e1, h⟩ := asI_el h
    obtain ⟨t5, e5, h⟩ := asL_el h
    refine reroot e0 (reroot (upd_other e1 rfl) (reroot (upd_other (upd_other e5 rfl) rfl) ?_))
    exact pt_sound hmix _ (Eq.mp (by kernel_rfl) h)

/-! trove/trovelaw5.HuffOrder -/
def trovelaw5_HuffOrder.j4  (Q : Value → World → Prop) (w : World) : Prop :=
  Q (.bool true) w

def trovelaw5_HuffOrder.j7 (d_0 : Sl) (t3 : Sl) (t5 : Int) (Q : Value → World → Prop) (nx1 : Sl → Sl → Int → World → Prop) (w : World) : Prop :=
  lt (IntKind.i64.wrap (t5 + 1)) fun x1 =>
  nx1 d_0 t3 x1 w

def trovelaw5_HuffOrder.b2 (d_0 : Sl) (t3 : Sl) (t5 : Int) (t6 : Int) (Q : Value → World → Prop) (nx1 : Sl → Sl → Int → World → Prop) (nx2 : Sl → Sl → Int → Int → World → Prop) (w : World) : Prop :=
  br (decide ((t6 : Int) < ((d_0.len : Nat) : Int))) (
  lt (World.drew w) fun w2 =>
  br ((t6 : Int) == t5) (
  lt (IntKind.i64.wrap (t6 + 1)) fun x3 =>
  nx2 d_0 t3 t5 x3 w2) (
  ixS d_0.a d_0.len t6 1 fun a4 =>
  ldI .i64 w2 a4 fun x5 =>
  ixS d_0.a d_0.len t5 1 fun a6 =>
  ldI .i64 w2 a6 fun x7 =>
  br (decide ((x5 : Int) < x7)) (
  lt (IntKind.i64.wrap (t6 + 1)) fun x8 =>
  nx2 d_0 t3 t5 x8 w2) (
  lt (World.drew w2) fun w9 =>
  ixS t3.a t3.len t6 1 fun a10 =>
  ldI .i64 w9 a10 fun x11 =>
  ixS d_0.a d_0.len t6 1 fun a12 =>
  ldI .i64 w9 a12 fun x13 =>
  ixS d_0.a d_0.len t5 1 fun a14 =>
  ldI .i64 w9 a14 fun x15 =>
  lt (IntKind.i64.wrap (x13 - x15)) fun x16 =>
  lt (IntKind.u64.wrap x16) fun x17 =>
  (0 : Int) ≤ x17 ∧
  lt (shrV .i64 x11 x17) fun x18 =>
  ixS t3.a t3.len t5 1 fun a19 =>
  ldI .i64 w9 a19 fun x20 =>
  br ((x18 : Int) == x20) (
  Q (.bool false) w9) (
  ixS d_0.a d_0.len t6 1 fun a21 =>
  ldI .i64 w9 a21 fun x22 =>
  ixS d_0.a d_0.len t5 1 fun a23 =>
  ldI .i64 w9 a23 fun x24 =>
  br ((x22 : Int) == x24) (
  ixS t3.a t3.len t6 1 fun a25 =>
  ldI .i64 w9 a25 fun x26 =>
  ixS t3.a t3.len t5 1 fun a27 =>
  ldI .i64 w9 a27 fun x28 =>
  br (!((decide ((t6 : Int) < t5)) == (decide ((x26 : Int) < x28)))) (
  Q (.bool false) w9) (
  lt (IntKind.i64.wrap (t6 + 1)) fun x29 =>
  nx2 d_0 t3 t5 x29 w9)) (
  lt (IntKind.i64.wrap (t6 + 1)) fun x30 =>
  nx2 d_0 t3 t5 x30 w9))))) (
  trovelaw5_HuffOrder.j7 d_0 t3 t5 Q nx1 w)

def trovelaw5_HuffOrder.l2 (d_0 : Sl) (t3 : Sl) (t5 : Int) (t6 : Int) (Q : Value → World → Prop) (nx1 : Sl → Sl → Int → World → Prop) (w : World) : Prop :=
  ∃ (I : Int → World → Prop) (μ : Int → World → Nat), I t6 w ∧ ∀ t6 : Int, ∀ w : World, I t6 w → trovelaw5_HuffOrder.b2 d_0 t3 t5 t6 Q nx1 (fun d_0' t3' t5' t6' w' => (d_0' = d_0 ∧ t3' = t3 ∧ t5' = t5) ∧ I t6' w' ∧ μ t6' w' < μ t6 w) w

def trovelaw5_HuffOrder.j9 (d_0 : Sl) (t3 : Sl) (t5 : Int) (t6 : Int) (Q : Value → World → Prop) (nx1 : Sl → Sl → Int → World → Prop) (w : World) : Prop :=
  trovelaw5_HuffOrder.l2 d_0 t3 t5 t6 Q nx1 w

def trovelaw5_HuffOrder.j8 (d_0 : Sl) (t3 : Sl) (t5 : Int) (Q : Value → World → Prop) (nx1 : Sl → Sl → Int → World → Prop) (w : World) : Prop :=
  lt (World.drew w) fun w31 =>
  ixS t3.a t3.len t5 1 fun a32 =>
  ldI .i64 w31 a32 fun x33 =>
  br (decide ((x33 : Int) < 0)) (
  Q (.bool false) w31) (
  ixS t3.a t3.len t5 1 fun a34 =>
  ldI .i64 w31 a34 fun x35 =>
  ixS d_0.a d_0.len t5 1 fun a36 =>
  ldI .i64 w31 a36 fun x37 =>
  lt (IntKind.u64.wrap x37) fun x38 =>
  (0 : Int) ≤ x38 ∧
  lt (shlV .i64 1 x38) fun x39 =>
  br (decide ((x35 : Int) ≥ x39)) (
  Q (.bool false) w31) (
  trovelaw5_HuffOrder.j9 d_0 t3 t5 0 Q nx1 w31))

def trovelaw5_HuffOrder.j6 (d_0 : Sl) (t3 : Sl) (t5 : Int) (Q : Value → World → Prop) (nx1 : Sl → Sl → Int → World → Prop) (w : World) : Prop :=
  ixS d_0.a d_0.len t5 1 fun a40 =>
  ldI .i64 w a40 fun x41 =>
  br ((x41 : Int) == 0) (
  ixS t3.a t3.len t5 1 fun a42 =>
  ldI .i64 w a42 fun x43 =>
  br ((x43 : Int) != 0) (
  Q (.bool false) w) (
  trovelaw5_HuffOrder.j7 d_0 t3 t5 Q nx1 w)) (
  trovelaw5_HuffOrder.j8 d_0 t3 t5 Q nx1 w)

def trovelaw5_HuffOrder.b1 (d_0 : Sl) (t3 : Sl) (t5 : Int) (Q : Value → World → Prop) (nx1 : Sl → Sl → Int → World → Prop) (w : World) : Prop :=
  br (decide ((t5 : Int) < ((d_0.len : Nat) : Int))) (
  trovelaw5_HuffOrder.j6 d_0 t3 t5 Q nx1 w) (
  trovelaw5_HuffOrder.j4 Q w)

def trovelaw5_HuffOrder.l1 (d_0 : Sl) (t3 : Sl) (t5 : Int) (Q : Value → World → Prop) (w : World) : Prop :=
  ∃ (I : Int → World → Prop) (μ : Int → World → Nat), I t5 w ∧ ∀ t5 : Int, ∀ w : World, I t5 w → trovelaw5_HuffOrder.b1 d_0 t3 t5 Q (fun d_0' t3' t5' w' => (d_0' = d_0 ∧ t3' = t3) ∧ I t5' w' ∧ μ t5' w' < μ t5 w) w

def trovelaw5_HuffOrder.j5 (d_0 : Sl) (t3 : Sl) (t5 : Int) (Q : Value → World → Prop) (w : World) : Prop :=
  trovelaw5_HuffOrder.l1 d_0 t3 t5 Q w

def trovelaw5_HuffOrder.j3 (d_0 : Sl) (t3 : Sl) (Q : Value → World → Prop) (w : World) : Prop :=
  trovelaw5_HuffOrder.j5 d_0 t3 0 Q w

def trovelaw5_HuffOrder.j2 (d_0 : Sl) (Q : Value → World → Prop) (w : World) : Prop :=
  Calls Try.prog 97 ⟨[.slice d_0.a d_0.len d_0.cap]⟩ w fun e44 w45 =>
  ∃ r46 : Sl, ∃ r47 : Int, e44 = .returned (.tuple ⟨[.slice r46.a r46.len r46.cap, .int .i64 r47]⟩) ∧
  br ((r47 : Int) != 0) (
  Q (.bool ((((r46.len : Nat) : Int) : Int) == 0)) w45) (
  trovelaw5_HuffOrder.j3 d_0 r46 Q w45)

def trovelaw5_HuffOrder.j1 (d_0 : Sl) (Q : Value → World → Prop) (w : World) : Prop :=
  Calls Try.prog 94 ⟨[]⟩ w fun e48 w49 =>
  ∃ r50 : Bool, e48 = .returned (.bool r50) ∧
  br (!r50) (
  Q (.bool false) w49) (
  br (decide ((((d_0.len : Nat) : Int) : Int) > 60)) (
  Q (.bool true) w49) (
  trovelaw5_HuffOrder.j2 d_0 Q w49))

def trovelaw5_HuffOrder (d_0 : Sl) (Q : Value → World → Prop) (w : World) : Prop :=
  trovelaw5_HuffOrder.j1 d_0 Q w

theorem trovelaw5_HuffOrder.ok (d_0 : Sl) (Q : Value → World → Prop) (w : World) (h : trovelaw5_HuffOrder d_0 Q w) : Calls Try.prog 22 ⟨[.slice d_0.a d_0.len d_0.cap]⟩ w (Ret Q) := by
  refine calls_of_wpc [.tmp 2] Try.func22 rfl rfl rfl rfl ?_
  refine wpc_seq (fun ρ w => asL (ρ 0) fun d_0 => trovelaw5_HuffOrder.j1 d_0 Q w) ?_ ?_
  · skip
    exact pt_sound hmix _ (Eq.mp (by kernel_rfl) h)
  · intro ρ w h
    obtain ⟨d_0, e0, h⟩ := asL_el h
    refine reroot e0 ?_
    refine wpc_pre2 hmix (fun ρ w => asL (ρ 0) fun d_0 => trovelaw5_HuffOrder.j2 d_0 Q w) (Eq.mp (by kernel_rfl) h) ?_
    intro ρ w h
    obtain ⟨d_0, e0, h⟩ := asL_el h
    refine reroot e0 ?_
    refine wpc_pre2 hmix (fun ρ w => asL (ρ 0) fun d_0 => asL (ρ 3) fun t3 => trovelaw5_HuffOrder.j3 d_0 t3 Q w) (Eq.mp (by kernel_rfl) h) ?_
    intro ρ w h
    obtain ⟨d_0, e0, h⟩ := asL_el h
    obtain ⟨t3, e3, h⟩ := asL_el h
    refine reroot e0 (reroot (upd_other e3 rfl) ?_)
    refine wpc_seq (fun ρ w =>  trovelaw5_HuffOrder.j4  Q w) ?_ ?_
    · skip
      refine wpc_seq (fun ρ w => asL (ρ 0) fun d_0 => asL (ρ 3) fun t3 => asI .i64 (ρ 5) fun t5 => trovelaw5_HuffOrder.j5 d_0 t3 t5 Q w) ?_ ?_
      · skip
        exact pt_sound hmix _ (Eq.mp (by kernel_rfl) h)
      · intro ρ w h
        obtain ⟨d_0, e0, h⟩ := asL_el h
        obtain ⟨t3, e3, h⟩ := asL_el h
        obtain ⟨t5, e5, h⟩ := asI_el h
        refine reroot e0 (reroot (upd_other e3 rfl) (reroot (upd_other (upd_other e5 rfl) rfl) ?_))
        refine wpc_block ?_
        obtain ⟨I, μ, hI, hr⟩ := h
        refine wpc_loopS (α := Int) (fun s ρ => ρ 5 = .int .i64 s ∧ ρ 0 = .slice d_0.a d_0.len d_0.cap ∧ ρ 3 = .slice t3.a t3.len t3.cap) (fun s w => I s w) (fun s w => μ s w) t5 ⟨rfl, rfl, rfl⟩ hI ?_
        rintro t5 ρ w ⟨e5, e0, e3⟩ hI
        have h := hr t5 w hI
        clear hr
        obtain ⟨nx1, hnx⟩ : ∃ nx : Sl → Sl → Int → World → Prop, nx = (fun d_0' t3' t5' w' => (d_0' = d_0 ∧ t3' = t3) ∧ I t5' w' ∧ μ t5' w' < μ t5 w) := ⟨_, rfl⟩
        rw [← hnx] at h
        refine wpc_norm (M := fun ρ w => asL (ρ 0) fun d_0 => asL (ρ 3) fun t3 => asI .i64 (ρ 5) fun t5 => nx1 d_0 t3 t5 w) ?_ (fun ρ w h => ?_)
        · skip
          refine reroot e0 (reroot (upd_other e3 rfl) (reroot (upd_other (upd_other e5 rfl) rfl) ?_))
          refine wpc_seq (fun ρ w => asL (ρ 0) fun d_0 => asL (ρ 3) fun t3 => asI .i64 (ρ 5) fun t5 => trovelaw5_HuffOrder.j6 d_0 t3 t5 Q nx1 w) ?_ ?_
          · skip
            exact pt_sound hmix _ (Eq.mp (by kernel_rfl) h)
          · intro ρ w h
            obtain ⟨d_0, e0, h⟩ := asL_el h
            obtain ⟨t3, e3, h⟩ := asL_el h
            obtain ⟨t5, e5, h⟩ := asI_el h
            refine reroot e0 (reroot (upd_other e3 rfl) (reroot (upd_other (upd_other e5 rfl) rfl) ?_))
            refine wpc_seq (fun ρ w => asL (ρ 0) fun d_0 => asL (ρ 3) fun t3 => asI .i64 (ρ 5) fun t5 => trovelaw5_HuffOrder.j7 d_0 t3 t5 Q nx1 w) ?_ ?_
            · skip
              refine wpc_block ?_
              refine wpc_seq (fun ρ w => asL (ρ 0) fun d_0 => asL (ρ 3) fun t3 => asI .i64 (ρ 5) fun t5 => trovelaw5_HuffOrder.j8 d_0 t3 t5 Q nx1 w) ?_ ?_
              · skip
                exact pt_sound hmix _ (Eq.mp (by kernel_rfl) h)
              · intro ρ w h
                obtain ⟨d_0, e0, h⟩ := asL_el h
                obtain ⟨t3, e3, h⟩ := asL_el h
                obtain ⟨t5, e5, h⟩ := asI_el h
                refine reroot e0 (reroot (upd_other e3 rfl) (reroot (upd_other (upd_other e5 rfl) rfl) ?_))
                refine wpc_pre2 hmix (fun ρ w => asL (ρ 0) fun d_0 => asL (ρ 3) fun t3 => asI .i64 (ρ 5) fun t5 => asI .i64 (ρ 6) fun t6 => trovelaw5_HuffOrder.j9 d_0 t3 t5 t6 Q nx1 w) (Eq.mp (by kernel_rfl) h) ?_
                intro ρ w h
                obtain ⟨d_0, e0, h⟩ := asL_el h
                obtain ⟨t3, e3, h⟩ := asL_el h
                obtain ⟨t5, e5, h⟩ := asI_el h
                obtain ⟨t6, e6, h⟩ := asI_el h
                refine reroot e0 (reroot (upd_other e3 rfl) (reroot (upd_other (upd_other e5 rfl) rfl) (reroot (upd_other (upd_other (upd_other e6 rfl) rfl) rfl) ?_)))
                refine wpc_block ?_
                obtain ⟨I, μ, hI, hr⟩ := h
                refine wpc_loopS (α := Int) (fun s ρ => ρ 6 = .int .i64 s ∧ ρ 0 = .slice d_0.a d_0.len d_0.cap ∧ ρ 3 = .slice t3.a t3.len t3.cap ∧ ρ 5 = .int .i64 t5) (fun s w => I s w) (fun s w => μ s w) t6 ⟨rfl, rfl, rfl, rfl⟩ hI ?_
                rintro t6 ρ w ⟨e6, e0, e3, e5⟩ hI
                have h := hr t6 w hI
                clear hr
                obtain ⟨nx2, hnx⟩ : ∃ nx : Sl → Sl → Int → Int → World → Prop, nx = (fun d_0' t3' t5' t6' w' => (d_0' = d_0 ∧ t3' = t3 ∧ t5' = t5) ∧ I t6' w' ∧ μ t6' w' < μ t6 w) := ⟨_, rfl⟩
                rw [← hnx] at h
                refine wpc_norm (M := fun ρ w => asL (ρ 0) fun d_0 => asL (ρ 3) fun t3 => asI .i64 (ρ 5) fun t5 => asI .i64 (ρ 6) fun t6 => nx2 d_0 t3 t5 t6 w) ?_ (fun ρ w h => ?_)
                · skip
                  refine reroot e0 (reroot (upd_other e3 rfl) (reroot (upd_other (upd_other e5 rfl) rfl) (reroot (upd_other (upd_other (upd_other e6 rfl) rfl) rfl) ?_)))
                  exact pt_sound hmix _ (Eq.mp (by kernel_rfl) h)
                · skip
                  obtain ⟨d_0', e0', h⟩ := asL_el h
                  obtain ⟨t3', e3', h⟩ := asL_el h
                  obtain ⟨t5', e5', h⟩ := asI_el h
                  obtain ⟨t6', e6', h⟩ := asI_el h
                  rw [hnx] at h
                  obtain ⟨hu, hI2, hμ⟩ := h
                  obtain ⟨rfl, rfl, rfl⟩ := hu
                  exact ⟨t6', ⟨e6', e0', e3', e5'⟩, hI2, hμ⟩
            · intro ρ w h
              obtain ⟨d_0, e0, h⟩ := asL_el h
              obtain ⟨t3, e3, h⟩ := asL_el h
              obtain ⟨t5, e5, h⟩ := asI_el h
              refine reroot e0 (reroot (upd_other e3 rfl) (reroot (upd_other (upd_other e5 rfl) rfl) ?_))
              exact pt_sound hmix _ (Eq.mp (by kernel_rfl) h)
        · skip
          obtain ⟨d_0', e0', h⟩ := asL_el h
          obtain ⟨t3', e3', h⟩ := asL_el h
          obtain ⟨t5', e5', h⟩ := asI_el h
          rw [hnx] at h
          obtain ⟨hu, hI2, hμ⟩ := h
          obtain ⟨rfl, rfl⟩ := hu
          exact ⟨t5', ⟨e5', e0', e3'⟩, hI2, hμ⟩
    · intro ρ w h
      exact pt_sound hmix _ (Eq.mp (by kernel_rfl) h)

/-! trove/trovelaw5.HuffWords -/
def trovelaw5_HuffWords.j7 (t6 : (Option Addr)) (t10 : (Option Addr)) (Q : Value → World → Prop) (w : World) : Prop :=
  Calls Try.prog 102 ⟨[.pointer t6, .pointer t10]⟩ w fun e1 w2 =>
  ∃ r3 : Int, ∃ r4 : Int, e1 = .returned (.tuple ⟨[.int .i64 r3, .int .i64 r4]⟩) ∧
  Q (.bool ((r4 : Int) == 2)) w2

def trovelaw5_HuffWords.b1 (d_0 : Int) (i_1 : Int) (t6 : (Option Addr)) (t10 : (Option Addr)) (t11 : Int) (Q : Value → World → Prop) (nx1 : Int → Int → (Option Addr) → (Option Addr) → Int → World → Prop) (w : World) : Prop :=
  br (decide ((t11 : Int) < d_0)) (
  Calls Try.prog 102 ⟨[.pointer t6, .pointer t10]⟩ w fun e5 w6 =>
  ∃ r7 : Int, ∃ r8 : Int, e5 = .returned (.tuple ⟨[.int .i64 r7, .int .i64 r8]⟩) ∧
  br ((r7 : Int) != i_1) (
  Q (.bool false) w6) (
  br ((r8 : Int) != 0) (
  Q (.bool false) w6) (
  lt (IntKind.i64.wrap (t11 + 1)) fun x9 =>
  nx1 d_0 i_1 t6 t10 x9 w6))) (
  trovelaw5_HuffWords.j7 t6 t10 Q w)

def trovelaw5_HuffWords.l1 (d_0 : Int) (i_1 : Int) (t6 : (Option Addr)) (t10 : (Option Addr)) (t11 : Int) (Q : Value → World → Prop) (w : World) : Prop :=
  ∃ (I : Int → World → Prop) (μ : Int → World → Nat), I t11 w ∧ ∀ t11 : Int, ∀ w : World, I t11 w → trovelaw5_HuffWords.b1 d_0 i_1 t6 t10 t11 Q (fun d_0' i_1' t6' t10' t11' w' => (d_0' = d_0 ∧ i_1' = i_1 ∧ t6' = t6 ∧ t10' = t10) ∧ I t11' w' ∧ μ t11' w' < μ t11 w) w

def trovelaw5_HuffWords.j8 (d_0 : Int) (i_1 : Int) (t6 : (Option Addr)) (t10 : (Option Addr)) (t11 : Int) (Q : Value → World → Prop) (w : World) : Prop :=
  trovelaw5_HuffWords.l1 d_0 i_1 t6 t10 t11 Q w

def trovelaw5_HuffWords.j6 (d_0 : Int) (i_1 : Int) (t6 : (Option Addr)) (t10 : (Option Addr)) (Q : Value → World → Prop) (w : World) : Prop :=
  trovelaw5_HuffWords.j8 d_0 i_1 t6 t10 0 Q w

def trovelaw5_HuffWords.j5 (d_0 : Int) (i_1 : Int) (t6 : (Option Addr)) (t8 : (Option Addr)) (Q : Value → World → Prop) (w : World) : Prop :=
  Calls Try.prog 34 ⟨[.pointer t8, .int .i64 1, .int .i64 1]⟩ w fun e10 w11 =>
  e10 = .returned (.tuple ⟨[]⟩) ∧
  Calls Try.prog 37 ⟨[.pointer t8]⟩ w11 fun e12 w13 =>
  ∃ r14 : Sl, e12 = .returned (.slice r14.a r14.len r14.cap) ∧
  Calls Try.prog 36 ⟨[.slice r14.a r14.len r14.cap]⟩ w13 fun e15 w16 =>
  ∃ r17 : (Option Addr), e15 = .returned (.pointer r17) ∧
  trovelaw5_HuffWords.j6 d_0 i_1 t6 r17 Q w16

def trovelaw5_HuffWords.b2 (d_0 : Int) (i_1 : Int) (t6 : (Option Addr)) (t8 : (Option Addr)) (t9 : Int) (Q : Value → World → Prop) (nx2 : Int → Int → (Option Addr) → (Option Addr) → Int → World → Prop) (w : World) : Prop :=
  br (decide ((t9 : Int) < d_0)) (
  Calls Try.prog 104 ⟨[.pointer t6, .pointer t8, .int .i64 i_1]⟩ w fun e18 w19 =>
  ∃ r20 : Bool, e18 = .returned (.bool r20) ∧
  br (!r20) (
  Q (.bool false) w19) (
  lt (IntKind.i64.wrap (i_1 + 1)) fun x21 =>
  Calls Try.prog 104 ⟨[.pointer t6, .pointer t8, .int .i64 x21]⟩ w19 fun e22 w23 =>
  ∃ r24 : Bool, e22 = .returned (.bool r24) ∧
  br r24 (
  Q (.bool false) w23) (
  lt (IntKind.i64.wrap (t9 + 1)) fun x25 =>
  nx2 d_0 i_1 t6 t8 x25 w23))) (
  trovelaw5_HuffWords.j5 d_0 i_1 t6 t8 Q w)

def trovelaw5_HuffWords.l2 (d_0 : Int) (i_1 : Int) (t6 : (Option Addr)) (t8 : (Option Addr)) (t9 : Int) (Q : Value → World → Prop) (w : World) : Prop :=
  ∃ (I : Int → World → Prop) (μ : Int → World → Nat), I t9 w ∧ ∀ t9 : Int, ∀ w : World, I t9 w → trovelaw5_HuffWords.b2 d_0 i_1 t6 t8 t9 Q (fun d_0' i_1' t6' t8' t9' w' => (d_0' = d_0 ∧ i_1' = i_1 ∧ t6' = t6 ∧ t8' = t8) ∧ I t9' w' ∧ μ t9' w' < μ t9 w) w

def trovelaw5_HuffWords.j9 (d_0 : Int) (i_1 : Int) (t6 : (Option Addr)) (t8 : (Option Addr)) (t9 : Int) (Q : Value → World → Prop) (w : World) : Prop :=
  trovelaw5_HuffWords.l2 d_0 i_1 t6 t8 t9 Q w

def trovelaw5_HuffWords.j4 (d_0 : Int) (i_1 : Int) (t6 : (Option Addr)) (t8 : (Option Addr)) (Q : Value → World → Prop) (w : World) : Prop :=
  trovelaw5_HuffWords.j9 d_0 i_1 t6 t8 0 Q w

def trovelaw5_HuffWords.j3 (d_0 : Int) (i_1 : Int) (t6 : (Option Addr)) (t7 : Int) (Q : Value → World → Prop) (w : World) : Prop :=
  br ((t7 : Int) != 0) (
  Q (.bool false) w) (
  br (Option.isNone t6) (
  Q (.bool false) w) (
  Calls Try.prog 33 ⟨[]⟩ w fun e26 w27 =>
  ∃ r28 : (Option Addr), e26 = .returned (.pointer r28) ∧
  trovelaw5_HuffWords.j4 d_0 i_1 t6 r28 Q w27))

def trovelaw5_HuffWords.j2 (d_0 : Int) (i_1 : Int) (t5 : Sl) (Q : Value → World → Prop) (w : World) : Prop :=
  ixS t5.a t5.len i_1 1 fun a29 =>
  st w a29 (.int .i64 1) fun w30 =>
  Calls Try.prog 99 ⟨[.slice t5.a t5.len t5.cap, .bool true]⟩ w30 fun e31 w32 =>
  ∃ r33 : (Option Addr), ∃ r34 : Int, e31 = .returned (.tuple ⟨[.pointer r33, .int .i64 r34]⟩) ∧
  trovelaw5_HuffWords.j3 d_0 i_1 r33 r34 Q w32

def trovelaw5_HuffWords.j1 (d_0 : Int) (i_1 : Int) (Q : Value → World → Prop) (w : World) : Prop :=
  br (decide ((d_0 : Int) < 1)) (
  Q (.bool true) w) (
  br (decide ((d_0 : Int) > 200)) (
  Q (.bool true) w) (
  br (decide ((i_1 : Int) < 0)) (
  Q (.bool true) w) (
  br (decide ((i_1 : Int) > 280)) (
  Q (.bool true) w) (
  lt (IntKind.i64.wrap (i_1 + 1)) fun x35 =>
  mkK Try.prog 3 w x35 x35 fun s36 w37 =>
  trovelaw5_HuffWords.j2 d_0 i_1 s36 Q w37))))

def trovelaw5_HuffWords (d_0 : Int) (i_1 : Int) (Q : Value → World → Prop) (w : World) : Prop :=
  Calls Try.prog 94 ⟨[]⟩ w fun e38 w39 =>
  ∃ r40 : Bool, e38 = .returned (.bool r40) ∧
  br (!r40) (
  Q (.bool false) w39) (
  trovelaw5_HuffWords.j1 d_0 i_1 Q w39)

theorem trovelaw5_HuffWords.ok (d_0 : Int) (i_1 : Int) (Q : Value → World → Prop) (w : World) (h : trovelaw5_HuffWords d_0 i_1 Q w) : Calls Try.prog 23 ⟨[.int .i64 d_0, .int .i64 i_1]⟩ w (Ret Q) := by
  refine calls_of_wpc [.tmp 4] Try.func23 rfl rfl rfl rfl ?_
  refine wpc_pre2 hmix (fun ρ w => asI .i64 (ρ 0) fun d_0 => asI .i64 (ρ 1) fun i_1 => trovelaw5_HuffWords.j1 d_0 i_1 Q w) (Eq.mp (by kernel_rfl) h) ?_
  intro ρ w h
  obtain ⟨d_0, e0, h⟩ := asI_el h
  obtain ⟨i_1, e1, h⟩ := asI_el h
  refine reroot e0 (reroot (upd_other e1 rfl) ?_)
  refine wpc_pre2 hmix (fun ρ w => asI .i64 (ρ 0) fun d_0 => asI .i64 (ρ 1) fun i_1 => asL (ρ 5) fun t5 => trovelaw5_HuffWords.j2 d_0 i_1 t5 Q w) (Eq.mp (by kernel_rfl) h) ?_
  intro ρ w h
  obtain ⟨d_0, e0, h⟩ := asI_el h
  obtain ⟨i_1, e1, h⟩ := asI_el h
  obtain ⟨t5, e5, h⟩ := asL_el h
  refine reroot e0 (reroot (upd_other e1 rfl) (reroot (upd_other (upd_other e5 rfl) rfl) ?_))
  refine wpc_pre2 hmix (fun ρ w => asI .i64 (ρ 0) fun d_0 => asI .i64 (ρ 1) fun i_1 => asP (ρ 6) fun t6 => asI .i64 (ρ 7) fun t7 => trovelaw5_HuffWords.j3 d_0 i_1 t6 t7 Q w) (Eq.mp (by kernel_rfl) h) ?_
  intro ρ w h
  obtain ⟨d_0, e0, h⟩ := asI_el h
  obtain ⟨i_1, e1, h⟩ := asI_el h
  obtain ⟨t6, e6, h⟩ := asP_el h
  obtain ⟨t7, e7, h⟩ := asI_el h
  refine reroot e0 (reroot (upd_other e1 rfl) (reroot (upd_other (upd_other e6 rfl) rfl) (reroot (upd_other (upd_other (upd_other e7 rfl) rfl) rfl) ?_)))
  refine wpc_pre2 hmix (fun ρ w => asI .i64 (ρ 0) fun d_0 => asI .i64 (ρ 1) fun i_1 => asP (ρ 6) fun t6 => asP (ρ 8) fun t8 => trovelaw5_HuffWords.j4 d_0 i_1 t6 t8 Q w) (Eq.mp (by kernel_rfl) h) ?_
  intro ρ w h
  obtain ⟨d_0, e0, h⟩ := asI_el h
  obtain ⟨i_1, e1, h⟩ := asI_el h
  obtain ⟨t6, e6, h⟩ := asP_el h
  obtain ⟨t8, e8, h⟩ := asP_el h
  refine reroot e0 (reroot (upd_other e1 rfl) (reroot (upd_other (upd_other e6 rfl) rfl) (reroot (upd_other (upd_other (upd_other e8 rfl) rfl) rfl) ?_)))
  refine wpc_seq (fun ρ w => asI .i64 (ρ 0) fun d_0 => asI .i64 (ρ 1) fun i_1 => asP (ρ 6) fun t6 => asP (ρ 8) fun t8 => trovelaw5_HuffWords.j5 d_0 i_1 t6 t8 Q w) ?_ ?_
  · skip
    refine wpc_seq (fun ρ w => asI .i64 (ρ 0) fun d_0 => asI .i64 (ρ 1) fun i_1 => asP (ρ 6) fun t6 => asP (ρ 8) fun t8 => asI .i64 (ρ 9) fun t9 => trovelaw5_HuffWords.j9 d_0 i_1 t6 t8 t9 Q w) ?_ ?_
    · skip
      exact pt_sound hmix _ (Eq.mp (by kernel_rfl) h)
    · intro ρ w h
      obtain ⟨d_0, e0, h⟩ := asI_el h
      obtain ⟨i_1, e1, h⟩ := asI_el h
      obtain ⟨t6, e6, h⟩ := asP_el h
      obtain ⟨t8, e8, h⟩ := asP_el h
      obtain ⟨t9, e9, h⟩ := asI_el h
      refine reroot e0 (reroot (upd_other e1 rfl) (reroot (upd_other (upd_other e6 rfl) rfl) (reroot (upd_other (upd_other (upd_other e8 rfl) rfl) rfl) (reroot (upd_other (upd_other (upd_other (upd_other e9 rfl) rfl) rfl) rfl) ?_))))
      refine wpc_block ?_
      obtain ⟨I, μ, hI, hr⟩ := h
      refine wpc_loopS (α := Int) (fun s ρ => ρ 9 = .int .i64 s ∧ ρ 0 = .int .i64 d_0 ∧ ρ 1 = .int .i64 i_1 ∧ ρ 6 = .pointer t6 ∧ ρ 8 = .pointer t8) (fun s w => I s w) (fun s w => μ s w) t9 ⟨rfl, rfl, rfl, rfl, rfl⟩ hI ?_
      rintro t9 ρ w ⟨e9, e0, e1, e6, e8⟩ hI
      have h := hr t9 w hI
      clear hr
      obtain ⟨nx2, hnx⟩ : ∃ nx : Int → Int → (Option Addr) → (Option Addr) → Int → World → Prop, nx = (fun d_0' i_1' t6' t8' t9' w' => (d_0' = d_0 ∧ i_1' = i_1 ∧ t6' = t6 ∧ t8' = t8) ∧ I t9' w' ∧ μ t9' w' < μ t9 w) := ⟨_, rfl⟩
      rw [← hnx] at h
      refine wpc_norm (M := fun ρ w => asI .i64 (ρ 0) fun d_0 => asI .i64 (ρ 1) fun i_1 => asP (ρ 6) fun t6 => asP (ρ 8) fun t8 => asI .i64 (ρ 9) fun t9 => nx2 d_0 i_1 t6 t8 t9 w) ?_ (fun ρ w h => ?_)
      · skip
        refine reroot e0 (reroot (upd_other e1 rfl) (reroot (upd_other (upd_other e6 rfl) rfl) (reroot (upd_other (upd_other (upd_other e8 rfl) rfl) rfl) (reroot (upd_other (upd_other (upd_other (upd_other e9 rfl) rfl) rfl) rfl) ?_))))
        exact pt_sound hmix _ (Eq.mp (by kernel_rfl) h)
      · skip
        obtain ⟨d_0', e0', h⟩ := asI_el h
        obtain ⟨i_1', e1', h⟩ := asI_el h
        obtain ⟨t6', e6', h⟩ := asP_el h
        obtain ⟨t8', e8', h⟩ := asP_el h
        obtain ⟨t9', e9', h⟩ := asI_el h
        rw [hnx] at h
        obtain ⟨hu, hI2, hμ⟩ := h
        obtain ⟨rfl, rfl, rfl, rfl⟩ := hu
        exact ⟨t9', ⟨e9', e0', e1', e6', e8'⟩, hI2, hμ⟩
  · intro ρ w h
    obtain ⟨d_0, e0, h⟩ := asI_el h
    obtain ⟨i_1, e1, h⟩ := asI_el h
    obtain ⟨t6, e6, h⟩ := asP_el h
    obtain ⟨t8, e8, h⟩ := asP_el h
    refine reroot e0 (reroot (upd_other e1 rfl) (reroot (upd_other (upd_other e6 rfl) rfl) (reroot (upd_other (upd_other (upd_other e8 rfl) rfl) rfl) ?_)))
    refine wpc_pre2 hmix (fun ρ w => asI .i64 (ρ 0) fun d_0 => asI .i64 (ρ 1) fun i_1 => asP (ρ 6) fun t6 => asP (ρ 10) fun t10 => trovelaw5_HuffWords.j6 d_0 i_1 t6 t10 Q w) (Eq.mp (by kernel_rfl) h) ?_
    intro ρ w h
    obtain ⟨d_0, e0, h⟩ := asI_el h
    obtain ⟨i_1, e1, h⟩ := asI_el h
    obtain ⟨t6, e6, h⟩ := asP_el h
    obtain ⟨t10, e10, h⟩ := asP_el h
    refine reroot e0 (reroot (upd_other e1 rfl) (reroot (upd_other (upd_other e6 rfl) rfl) (reroot (upd_other (upd_other (upd_other e10 rfl) rfl) rfl) ?_)))
    refine wpc_seq (fun ρ w => asP (ρ 6) fun t6 => asP (ρ 10) fun t10 => trovelaw5_HuffWords.j7 t6 t10 Q w) ?_ ?_
    · skip
      refine wpc_seq (fun ρ w => asI .i64 (ρ 0) fun d_0 => asI .i64 (ρ 1) fun i_1 => asP (ρ 6) fun t6 => asP (ρ 10) fun t10 => asI .i64 (ρ 11) fun t11 => trovelaw5_HuffWords.j8 d_0 i_1 t6 t10 t11 Q w) ?_ ?_
      · skip
        exact pt_sound hmix _ (Eq.mp (by kernel_rfl) h)
      · intro ρ w h
        obtain ⟨d_0, e0, h⟩ := asI_el h
        obtain ⟨i_1, e1, h⟩ := asI_el h
        obtain ⟨t6, e6, h⟩ := asP_el h
        obtain ⟨t10, e10, h⟩ := asP_el h
        obtain ⟨t11, e11, h⟩ := asI_el h
        refine reroot e0 (reroot (upd_other e1 rfl) (reroot (upd_other (upd_other e6 rfl) rfl) (reroot (upd_other (upd_other (upd_other e10 rfl) rfl) rfl) (reroot (upd_other (upd_other (upd_other (upd_other e11 rfl) rfl) rfl) rfl) ?_))))
        refine wpc_block ?_
        obtain ⟨I, μ, hI, hr⟩ := h
        refine wpc_loopS (α := Int) (fun s ρ => ρ 11 = .int .i64 s ∧ ρ 0 = .int .i64 d_0 ∧ ρ 1 = .int .i64 i_1 ∧ ρ 6 = .pointer t6 ∧ ρ 10 = .pointer t10) (fun s w => I s w) (fun s w => μ s w) t11 ⟨rfl, rfl, rfl, rfl, rfl⟩ hI ?_
        rintro t11 ρ w ⟨e11, e0, e1, e6, e10⟩ hI
        have h := hr t11 w hI
        clear hr
        obtain ⟨nx1, hnx⟩ : ∃ nx : Int → Int → (Option Addr) → (Option Addr) → Int → World → Prop, nx = (fun d_0' i_1' t6' t10' t11' w' => (d_0' = d_0 ∧ i_1' = i_1 ∧ t6' = t6 ∧ t10' = t10) ∧ I t11' w' ∧ μ t11' w' < μ t11 w) := ⟨_, rfl⟩
        rw [← hnx] at h
        refine wpc_norm (M := fun ρ w => asI .i64 (ρ 0) fun d_0 => asI .i64 (ρ 1) fun i_1 => asP (ρ 6) fun t6 => asP (ρ 10) fun t10 => asI .i64 (ρ 11) fun t11 => nx1 d_0 i_1 t6 t10 t11 w) ?_ (fun ρ w h => ?_)
        · skip
          refine reroot e0 (reroot (upd_other e1 rfl) (reroot (upd_other (upd_other e6 rfl) rfl) (reroot (upd_other (upd_other (upd_other e10 rfl) rfl) rfl) (reroot (upd_other (upd_other (upd_other (upd_other e11 rfl) rfl) rfl) rfl) ?_))))
          exact pt_sound hmix _ (Eq.mp (by kernel_rfl) h)
        · skip
          obtain ⟨d_0', e0', h⟩ := asI_el h
          obtain ⟨i_1', e1', h⟩ := asI_el h
          obtain ⟨t6', e6', h⟩ := asP_el h
          obtain ⟨t10', e10', h⟩ := asP_el h
          obtain ⟨t11', e11', h⟩ := asI_el h
          rw [hnx] at h
          obtain ⟨hu, hI2, hμ⟩ := h
          obtain ⟨rfl, rfl, rfl, rfl⟩ := hu
          exact ⟨t11', ⟨e11', e0', e1', e6', e10'⟩, hI2, hμ⟩
    · intro ρ w h
      obtain ⟨t6, e6, h⟩ := asP_el h
      obtain ⟨t10, e10, h⟩ := asP_el h
      refine reroot e6 (reroot (upd_other e10 rfl) ?_)
      exact pt_sound hmix _ (Eq.mp (by kernel_rfl) h)

/-! trove/trovelaw5.HuffBack -/
def trovelaw5_HuffBack.j7  (Q : Value → World → Prop) (w : World) : Prop :=
  Q (.bool true) w

def trovelaw5_HuffBack.b1 (t5 : (Option Addr)) (t9 : Sl) (t13 : (Option Addr)) (t14 : Int) (Q : Value → World → Prop) (nx1 : (Option Addr) → Sl → (Option Addr) → Int → World → Prop) (w : World) : Prop :=
  br (decide ((t14 : Int) < ((t9.len : Nat) : Int))) (
  Calls Try.prog 102 ⟨[.pointer t5, .pointer t13]⟩ w fun e1 w2 =>
  ∃ r3 : Int, ∃ r4 : Int, e1 = .returned (.tuple ⟨[.int .i64 r3, .int .i64 r4]⟩) ∧
  ixS t9.a t9.len t14 1 fun a5 =>
  ldI .i64 w2 a5 fun x6 =>
  br ((r3 : Int) != x6) (
  Q (.bool false) w2) (
  br ((r4 : Int) != 0) (
  Q (.bool false) w2) (
  lt (IntKind.i64.wrap (t14 + 1)) fun x7 =>
  nx1 t5 t9 t13 x7 w2))) (
  trovelaw5_HuffBack.j7 Q w)

def trovelaw5_HuffBack.l1 (t5 : (Option Addr)) (t9 : Sl) (t13 : (Option Addr)) (t14 : Int) (Q : Value → World → Prop) (w : World) : Prop :=
  ∃ (I : Int → World → Prop) (μ : Int → World → Nat), I t14 w ∧ ∀ t14 : Int, ∀ w : World, I t14 w → trovelaw5_HuffBack.b1 t5 t9 t13 t14 Q (fun t5' t9' t13' t14' w' => (t5' = t5 ∧ t9' = t9 ∧ t13' = t13) ∧ I t14' w' ∧ μ t14' w' < μ t14 w) w

def trovelaw5_HuffBack.j8 (t5 : (Option Addr)) (t9 : Sl) (t13 : (Option Addr)) (t14 : Int) (Q : Value → World → Prop) (w : World) : Prop :=
  trovelaw5_HuffBack.l1 t5 t9 t13 t14 Q w

def trovelaw5_HuffBack.j6 (t5 : (Option Addr)) (t9 : Sl) (t13 : (Option Addr)) (Q : Value → World → Prop) (w : World) : Prop :=
  trovelaw5_HuffBack.j8 t5 t9 t13 0 Q w

def trovelaw5_HuffBack.j5 (d_0 : Sl) (t5 : (Option Addr)) (t7 : (Option Addr)) (t8 : Sl) (t9 : Sl) (Q : Value → World → Prop) (w : World) : Prop :=
  Calls Try.prog 48 ⟨[.pointer t7]⟩ w fun e8 w9 =>
  ∃ r10 : Int, e8 = .returned (.int .i64 r10) ∧
  Calls Try.prog 105 ⟨[.pointer t5, .slice t8.a t8.len t8.cap]⟩ w9 fun e11 w12 =>
  ∃ r13 : Int, e11 = .returned (.int .i64 r13) ∧
  br ((r10 : Int) != r13) (
  Q (.bool false) w12) (
  Calls Try.prog 105 ⟨[.pointer t5, .slice t8.a t8.len t8.cap]⟩ w12 fun e14 w15 =>
  ∃ r16 : Int, e14 = .returned (.int .i64 r16) ∧
  Calls Try.prog 106 ⟨[.slice d_0.a d_0.len d_0.cap, .slice t8.a t8.len t8.cap]⟩ w15 fun e17 w18 =>
  ∃ r19 : Int, e17 = .returned (.int .i64 r19) ∧
  br ((r16 : Int) != r19) (
  Q (.bool false) w18) (
  Calls Try.prog 37 ⟨[.pointer t7]⟩ w18 fun e20 w21 =>
  ∃ r22 : Sl, e20 = .returned (.slice r22.a r22.len r22.cap) ∧
  Calls Try.prog 36 ⟨[.slice r22.a r22.len r22.cap]⟩ w21 fun e23 w24 =>
  ∃ r25 : (Option Addr), e23 = .returned (.pointer r25) ∧
  trovelaw5_HuffBack.j6 t5 t9 r25 Q w24))

def trovelaw5_HuffBack.j11 (d_0 : Sl) (i_1 : Sl) (t5 : (Option Addr)) (t7 : (Option Addr)) (t8 : Sl) (t9 : Sl) (t10 : Int) (Q : Value → World → Prop) (nx2 : Sl → Sl → (Option Addr) → (Option Addr) → Sl → Sl → Int → World → Prop) (w : World) : Prop :=
  lt (IntKind.i64.wrap (t10 + 1)) fun x26 =>
  nx2 d_0 i_1 t5 t7 t8 t9 x26 w

def trovelaw5_HuffBack.j12 (d_0 : Sl) (i_1 : Sl) (t5 : (Option Addr)) (t7 : (Option Addr)) (t8 : Sl) (t9 : Sl) (t10 : Int) (t11 : Int) (t12 : Bool) (Q : Value → World → Prop) (nx2 : Sl → Sl → (Option Addr) → (Option Addr) → Sl → Sl → Int → World → Prop) (w : World) : Prop :=
  Calls Try.prog 104 ⟨[.pointer t5, .pointer t7, .int .i64 t11]⟩ w fun e27 w28 =>
  ∃ r29 : Bool, e27 = .returned (.bool r29) ∧
  br (!(r29 == t12)) (
  Q (.bool false) w28) (
  br t12 (
  lt (⟨World.heapSize w28, 0, none⟩ : Addr) fun a30 =>
  lt (World.alloc w28 (.cells ⟨[.int .i64 t11]⟩ 3)) fun w31 =>
  rdO w31 (some a30) (1 * 1) fun c32 =>
  apK Try.prog 3 w31 t9.a t9.len t9.cap 1 c32 fun s33 w34 =>
  ixS t8.a t8.len t11 1 fun a35 =>
  ldI .i64 w34 a35 fun x36 =>
  lt (IntKind.i64.wrap (x36 + 1)) fun x37 =>
  ixS t8.a t8.len t11 1 fun a38 =>
  st w34 a38 (.int .i64 x37) fun w39 =>
  trovelaw5_HuffBack.j11 d_0 i_1 t5 t7 t8 s33 t10 Q nx2 w39) (
  trovelaw5_HuffBack.j11 d_0 i_1 t5 t7 t8 t9 t10 Q nx2 w28))

def trovelaw5_HuffBack.j10 (d_0 : Sl) (i_1 : Sl) (t5 : (Option Addr)) (t7 : (Option Addr)) (t8 : Sl) (t9 : Sl) (t10 : Int) (Q : Value → World → Prop) (nx2 : Sl → Sl → (Option Addr) → (Option Addr) → Sl → Sl → Int → World → Prop) (w : World) : Prop :=
  ixS i_1.a i_1.len t10 1 fun a40 =>
  ldI .i64 w a40 fun x41 =>
  br (decide ((x41 : Int) ≥ 0)) (
  br (decide ((x41 : Int) < ((d_0.len : Nat) : Int))) (
  ixS d_0.a d_0.len x41 1 fun a42 =>
  ldI .i64 w a42 fun x43 =>
  trovelaw5_HuffBack.j12 d_0 i_1 t5 t7 t8 t9 t10 x41 (decide ((x43 : Int) > 0)) Q nx2 w) (
  trovelaw5_HuffBack.j12 d_0 i_1 t5 t7 t8 t9 t10 x41 false Q nx2 w)) (
  trovelaw5_HuffBack.j12 d_0 i_1 t5 t7 t8 t9 t10 x41 false Q nx2 w)

def trovelaw5_HuffBack.b2 (d_0 : Sl) (i_1 : Sl) (t5 : (Option Addr)) (t7 : (Option Addr)) (t8 : Sl) (t9 : Sl) (t10 : Int) (Q : Value → World → Prop) (nx2 : Sl → Sl → (Option Addr) → (Option Addr) → Sl → Sl → Int → World → Prop) (w : World) : Prop :=
  br (decide ((t10 : Int) < ((i_1.len : Nat) : Int))) (
  trovelaw5_HuffBack.j10 d_0 i_1 t5 t7 t8 t9 t10 Q nx2 w) (
  trovelaw5_HuffBack.j5 d_0 t5 t7 t8 t9 Q w)

def trovelaw5_HuffBack.l2 (d_0 : Sl) (i_1 : Sl) (t5 : (Option Addr)) (t7 : (Option Addr)) (t8 : Sl) (t9 : Sl) (t10 : Int) (Q : Value → World → Prop) (w : World) : Prop :=
  ∃ (I : Sl → Int → World → Prop) (μ : Sl → Int → World → Nat), I t9 t10 w ∧ ∀ t9 : Sl, ∀ t10 : Int, ∀ w : World, I t9 t10 w → trovelaw5_HuffBack.b2 d_0 i_1 t5 t7 t8 t9 t10 Q (fun d_0' i_1' t5' t7' t8' t9' t10' w' => (d_0' = d_0 ∧ i_1' = i_1 ∧ t5' = t5 ∧ t7' = t7 ∧ t8' = t8) ∧ I t9' t10' w' ∧ μ t9' t10' w' < μ t9 t10 w) w

def trovelaw5_HuffBack.j9 (d_0 : Sl) (i_1 : Sl) (t5 : (Option Addr)) (t7 : (Option Addr)) (t8 : Sl) (t9 : Sl) (t10 : Int) (Q : Value → World → Prop) (w : World) : Prop :=
  trovelaw5_HuffBack.l2 d_0 i_1 t5 t7 t8 t9 t10 Q w

def trovelaw5_HuffBack.j4 (d_0 : Sl) (i_1 : Sl) (t5 : (Option Addr)) (t7 : (Option Addr)) (t8 : Sl) (t9 : Sl) (Q : Value → World → Prop) (w : World) : Prop :=
  trovelaw5_HuffBack.j9 d_0 i_1 t5 t7 t8 t9 0 Q w

def trovelaw5_HuffBack.j3 (d_0 : Sl) (i_1 : Sl) (t5 : (Option Addr)) (t7 : (Option Addr)) (Q : Value → World → Prop) (w : World) : Prop :=
  mkK Try.prog 3 w ((d_0.len : Nat) : Int) ((d_0.len : Nat) : Int) fun s44 w45 =>
  trovelaw5_HuffBack.j4 d_0 i_1 t5 t7 s44 ⟨none, 0, 0⟩ Q w45

def trovelaw5_HuffBack.j2 (d_0 : Sl) (i_1 : Sl) (t5 : (Option Addr)) (t6 : Int) (Q : Value → World → Prop) (w : World) : Prop :=
  br ((t6 : Int) != 0) (
  Q (.bool true) w) (
  br (Option.isNone t5) (
  Q (.bool true) w) (
  Calls Try.prog 33 ⟨[]⟩ w fun e46 w47 =>
  ∃ r48 : (Option Addr), e46 = .returned (.pointer r48) ∧
  trovelaw5_HuffBack.j3 d_0 i_1 t5 r48 Q w47))

def trovelaw5_HuffBack.j1 (d_0 : Sl) (i_1 : Sl) (Q : Value → World → Prop) (w : World) : Prop :=
  br (decide ((((d_0.len : Nat) : Int) : Int) > 400)) (
  Q (.bool true) w) (
  br (decide ((((i_1.len : Nat) : Int) : Int) > 300)) (
  Q (.bool true) w) (
  Calls Try.prog 99 ⟨[.slice d_0.a d_0.len d_0.cap, .bool true]⟩ w fun e49 w50 =>
  ∃ r51 : (Option Addr), ∃ r52 : Int, e49 = .returned (.tuple ⟨[.pointer r51, .int .i64 r52]⟩) ∧
  trovelaw5_HuffBack.j2 d_0 i_1 r51 r52 Q w50))

def trovelaw5_HuffBack (d_0 : Sl) (i_1 : Sl) (Q : Value → World → Prop) (w : World) : Prop :=
  Calls Try.prog 94 ⟨[]⟩ w fun e53 w54 =>
  ∃ r55 : Bool, e53 = .returned (.bool r55) ∧
  br (!r55) (
  Q (.bool false) w54) (
  trovelaw5_HuffBack.j1 d_0 i_1 Q w54)

theorem trovelaw5_HuffBack.ok (d_0 : Sl) (i_1 : Sl) (Q : Value → World → Prop) (w : World) (h : trovelaw5_HuffBack d_0 i_1 Q w) : Calls Try.prog 24 ⟨[.slice d_0.a d_0.len d_0.cap, .slice i_1.a i_1.len i_1.cap]⟩ w (Ret Q) := by
  refine calls_of_wpc [.tmp 4] Try.func24 rfl rfl rfl rfl ?_
  refine wpc_pre2 hmix (fun ρ w => asL (ρ 0) fun d_0 => asL (ρ 1) fun i_1 => trovelaw5_HuffBack.j1 d_0 i_1 Q w) (Eq.mp (by kernel_rfl) h) ?_
  intro ρ w h
  obtain ⟨d_0, e0, h⟩ := asL_el h
  obtain ⟨i_1, e1, h⟩ := asL_el h
  refine reroot e0 (reroot (upd_other e1 rfl) ?_)
  refine wpc_pre2 hmix (fun ρ w => asL (ρ 0) fun d_0 => asL (ρ 1) fun i_1 => asP (ρ 5) fun t5 => asI .i64 (ρ 6) fun t6 => trovelaw5_HuffBack.j2 d_0 i_1 t5 t6 Q w) (Eq.mp (by kernel_rfl) h) ?_
  intro ρ w h
  obtain ⟨d_0, e0, h⟩ := asL_el h
  obtain ⟨i_1, e1, h⟩ := asL_el h
  obtain ⟨t5, e5, h⟩ := asP_el h
  obtain ⟨t6, e6, h⟩ := asI_el h
  refine reroot e0 (reroot (upd_other e1 rfl) (reroot (upd_other (upd_other e5 rfl) rfl) (reroot (upd_other (upd_other (upd_other e6 rfl) rfl) rfl) ?_)))
  refine wpc_pre2 hmix (fun ρ w => asL (ρ 0) fun d_0 => asL (ρ 1) fun i_1 => asP (ρ 5) fun t5 => asP (ρ 7) fun t7 => trovelaw5_HuffBack.j3 d_0 i_1 t5 t7 Q w) (Eq.mp (by kernel_rfl) h) ?_
  intro ρ w h
  obtain ⟨d_0, e0, h⟩ := asL_el h
  obtain ⟨i_1, e1, h⟩ := asL_el h
  obtain ⟨t5, e5, h⟩ := asP_el h
  obtain ⟨t7, e7, h⟩ := asP_el h
  refine reroot e0 (reroot (upd_other e1 rfl) (reroot (upd_other (upd_other e5 rfl) rfl) (reroot (upd_other (upd_other (upd_other e7 rfl) rfl) rfl) ?_)))
  refine wpc_pre2 hmix (fun ρ w => asL (ρ 0) fun d_0 => asL (ρ 1) fun i_1 => asP (ρ 5) fun t5 => asP (ρ 7) fun t7 => asL (ρ 8) fun t8 => asL (ρ 9) fun t9 => trovelaw5_HuffBack.j4 d_0 i_1 t5 t7 t8 t9 Q w) (Eq.mp (by kernel_rfl) h) ?_
  intro ρ w h
  obtain ⟨d_0, e0, h⟩ := asL_el h
  obtain ⟨i_1, e1, h⟩ := asL_el h
  obtain ⟨t5, e5, h⟩ := asP_el h
  obtain ⟨t7, e7, h⟩ := asP_el h
  obtain ⟨t8, e8, h⟩ := asL_el h
  obtain ⟨t9, e9, h⟩ := asL_el h
  refine reroot e0 (reroot (upd_other e1 rfl) (reroot (upd_other (upd_other e5 rfl) rfl) (reroot (upd_other (upd_other (upd_other e7 rfl) rfl) rfl) (reroot (upd_other (upd_other (upd_other (upd_other e8 rfl) rfl) rfl) rfl) (reroot (upd_other (upd_other (upd_other (upd_other (upd_other e9 rfl) rfl) rfl) rfl) rfl) ?_)))))
  refine wpc_seq (fun ρ w => asL (ρ 0) fun d_0 => asP (ρ 5) fun t5 => asP (ρ 7) fun t7 => asL (ρ 8) fun t8 => asL (ρ 9) fun t9 => trovelaw5_HuffBack.j5 d_0 t5 t7 t8 t9 Q w) ?_ ?_
  · skip
    refine wpc_seq (fun ρ w => asL (ρ 0) fun d_0 => asL (ρ 1) fun i_1 => asP (ρ 5) fun t5 => asP (ρ 7) fun t7 => asL (ρ 8) fun t8 => asL (ρ 9) fun t9 => asI .i64 (ρ 10) fun t10 => trovelaw5_HuffBack.j9 d_0 i_1 t5 t7 t8 t9 t10 Q w) ?_ ?_
    · skip
      exact pt_sound hmix _ (Eq.mp (by kernel_rfl) h)
    · intro ρ w h
      obtain ⟨d_0, e0, h⟩ := asL_el h
      obtain ⟨i_1, e1, h⟩ := asL_el h
      obtain ⟨t5, e5, h⟩ := asP_el h
      obtain ⟨t7, e7, h⟩ := asP_el h
      obtain ⟨t8, e8, h⟩ := asL_el h
      obtain ⟨t9, e9, h⟩ := asL_el h
      obtain ⟨t10, e10, h⟩ := asI_el h
      refine reroot e0 (reroot (upd_other e1 rfl) (reroot (upd_other (upd_other e5 rfl) rfl) (reroot (upd_other (upd_other (upd_other e7 rfl) rfl) rfl) (reroot (upd_other (upd_other (upd_other (upd_other e8 rfl) rfl) rfl) rfl) (reroot (upd_other (upd_other (upd_other (upd_other (upd_other e9 rfl) rfl) rfl) rfl) rfl) (reroot (upd_other (upd_other (upd_other (upd_other (upd_other (upd_other e10 rfl) rfl) rfl) rfl) rfl) rfl) ?_))))))
      refine wpc_block ?_
      obtain ⟨I, μ, hI, hr⟩ := h
      refine wpc_loopS (α := Sl × Int) (fun s ρ => ρ 9 = .slice s.1.a s.1.len s.1.cap ∧ ρ 10 = .int .i64 s.2 ∧ ρ 0 = .slice d_0.a d_0.len d_0.cap ∧ ρ 1 = .slice i_1.a i_1.len i_1.cap ∧ ρ 5 = .pointer t5 ∧ ρ 7 = .pointer t7 ∧ ρ 8 = .slice t8.a t8.len t8.cap) (fun s w => I s.1 s.2 w) (fun s w => μ s.1 s.2 w) (t9, t10) ⟨rfl, rfl, rfl, rfl, rfl, rfl, rfl⟩ hI ?_
      rintro ⟨t9, t10⟩ ρ w ⟨e9, e10, e0, e1, e5, e7, e8⟩ hI
      have h := hr t9 t10 w hI
      clear hr
      obtain ⟨nx2, hnx⟩ : ∃ nx : Sl → Sl → (Option Addr) → (Option Addr) → Sl → Sl → Int → World → Prop, nx = (fun d_0' i_1' t5' t7' t8' t9' t10' w' => (d_0' = d_0 ∧ i_1' = i_1 ∧ t5' = t5 ∧ t7' = t7 ∧ t8' = t8) ∧ I t9' t10' w' ∧ μ t9' t10' w' < μ t9 t10 w) := ⟨_, rfl⟩
      rw [← hnx] at h
      refine wpc_norm (M := fun ρ w => asL (ρ 0) fun d_0 => asL (ρ 1) fun i_1 => asP (ρ 5) fun t5 => asP (ρ 7) fun t7 => asL (ρ 8) fun t8 => asL (ρ 9) fun t9 => asI .i64 (ρ 10) fun t10 => nx2 d_0 i_1 t5 t7 t8 t9 t10 w) ?_ (fun ρ w h => ?_)
      · skip
        refine reroot e0 (reroot (upd_other e1 rfl) (reroot (upd_other (upd_other e5 rfl) rfl) (reroot (upd_other (upd_other (upd_other e7 rfl) rfl) rfl) (reroot (upd_other (upd_other (upd_other (upd_other e8 rfl) rfl) rfl) rfl) (reroot (upd_other (upd_other (upd_other (upd_other (upd_other e9 rfl) rfl) rfl) rfl) rfl) (reroot (upd_other (upd_other (upd_other (upd_other (upd_other (upd_other e10 rfl) rfl) rfl) rfl) rfl) rfl) ?_))))))
        refine wpc_seq (fun ρ w => asL (ρ 0) fun d_0 => asL (ρ 1) fun i_1 => asP (ρ 5) fun t5 => asP (ρ 7) fun t7 => asL (ρ 8) fun t8 => asL (ρ 9) fun t9 => asI .i64 (ρ 10) fun t10 => trovelaw5_HuffBack.j10 d_0 i_1 t5 t7 t8 t9 t10 Q nx2 w) ?_ ?_
        · skip
          exact pt_sound hmix _ (Eq.mp (by kernel_rfl) h)
        · intro ρ w h
          obtain ⟨d_0, e0, h⟩ := asL_el h
          obtain ⟨i_1, e1, h⟩ := asL_el h
          obtain ⟨t5, e5, h⟩ := asP_el h
          obtain ⟨t7, e7, h⟩ := asP_el h
          obtain ⟨t8, e8, h⟩ := asL_el h
          obtain ⟨t9, e9, h⟩ := asL_el h
          obtain ⟨t10, e10, h⟩ := asI_el h
          refine reroot e0 (reroot (upd_other e1 rfl) (reroot (upd_other (upd_other e5 rfl) rfl) (reroot (upd_other (upd_other (upd_other e7 rfl) rfl) rfl) (reroot (upd_other (upd_other (upd_other (upd_other e8 rfl) rfl) rfl) rfl) (reroot (upd_other (upd_other (upd_other (upd_other (upd_other e9 rfl) rfl) rfl) rfl) rfl) (reroot (upd_other (upd_other (upd_other (upd_other (upd_other (upd_other e10 rfl) rfl) rfl) rfl) rfl) rfl) ?_))))))
          refine wpc_seq (fun ρ w => asL (ρ 0) fun d_0 => asL (ρ 1) fun i_1 => asP (ρ 5) fun t5 => asP (ρ 7) fun t7 => asL (ρ 8) fun t8 => asL (ρ 9) fun t9 => asI .i64 (ρ 10) fun t10 => trovelaw5_HuffBack.j11 d_0 i_1 t5 t7 t8 t9 t10 Q nx2 w) ?_ ?_
          · skip
            refine wpc_block ?_
            refine wpc_pre2 hmix (fun ρ w => asL (ρ 0) fun d_0 => asL (ρ 1) fun i_1 => asP (ρ 5) fun t5 => asP (ρ 7) fun t7 => asL (ρ 8) fun t8 => asL (ρ 9) fun t9 => asI .i64 (ρ 10) fun t10 => asI .i64 (ρ 11) fun t11 => asB (ρ 12) fun t12 => trovelaw5_HuffBack.j12 d_0 i_1 t5 t7 t8 t9 t10 t11 t12 Q nx2 w) (Eq.mp (by kernel_rfl) h) ?_
            intro ρ w h
            obtain ⟨d_0, e0, h⟩ := asL_el h
            obtain ⟨i_1, e1, h⟩ := asL_el h
            obtain ⟨t5, e5, h⟩ := asP_el h
            obtain ⟨t7, e7, h⟩ := asP_el h
            obtain ⟨t8, e8, h⟩ := asL_el h
            obtain ⟨t9, e9, h⟩ := asL_el h
            obtain ⟨t10, e10, h⟩ := asI_el h
            obtain ⟨t11, e11, h⟩ := asI_el h
            obtain ⟨t12, e12, h⟩ := asB_el h
            refine reroot e0 (reroot (upd_other e1 rfl) (reroot (upd_other (upd_other e5 rfl) rfl) (reroot (upd_other (upd_other (upd_other e7 rfl) rfl) rfl) (reroot (upd_other (upd_other (upd_other (upd_other e8 rfl) rfl) rfl) rfl) (reroot (upd_other (upd_other (upd_other (upd_other (upd_other e9 rfl) rfl) rfl) rfl) rfl) (reroot (upd_other (upd_other (upd_other (upd_other (upd_other (upd_other e10 rfl) rfl) rfl) rfl) rfl) rfl) (reroot (upd_other (upd_other (upd_other (upd_other (upd_other (upd_other (upd_other e11 rfl) rfl) rfl) rfl) rfl) rfl) rfl) (reroot (upd_other (upd_other (upd_other (upd_other (upd_other (upd_other (upd_other (upd_other e12 rfl) rfl) rfl) rfl) rfl) rfl) rfl) rfl) ?_))))))))
            exact pt_sound hmix _ (Eq.mp (by kernel_rfl) h)
          · intro ρ w h
            obtain ⟨d_0, e0, h⟩ := asL_el h
            obtain ⟨i_1, e1, h⟩ := asL_el h
            obtain ⟨t5, e5, h⟩ := asP_el h
            obtain ⟨t7, e7, h⟩ := asP_el h
            obtain ⟨t8, e8, h⟩ := asL_el h
            obtain ⟨t9, e9, h⟩ := asL_el h
            obtain ⟨t10, e10, h⟩ := asI_el h
            refine reroot e0 (reroot (upd_other e1 rfl) (reroot (upd_other (upd_other e5 rfl) rfl) (reroot (upd_other (upd_other (upd_other e7 rfl) rfl) rfl) (reroot (upd_other (upd_other (upd_other (upd_other e8 rfl) rfl) rfl) rfl) (reroot (upd_other (upd_other (upd_other (upd_other (upd_other e9 rfl) rfl) rfl) rfl) rfl) (reroot (upd_other (upd_other (upd_other (upd_other (upd_other (upd_other e10 rfl) rfl) rfl) rfl) rfl) rfl) ?_))))))
            exact pt_sound hmix _ (Eq.mp (by kernel_rfl) h)
      · skip
        obtain ⟨d_0', e0', h⟩ := asL_el h
        obtain ⟨i_1', e1', h⟩ := asL_el h
        obtain ⟨t5', e5', h⟩ := asP_el h
        obtain ⟨t7', e7', h⟩ := asP_el h
        obtain ⟨t8', e8', h⟩ := asL_el h
        obtain ⟨t9', e9', h⟩ := asL_el h
        obtain ⟨t10', e10', h⟩ := asI_el h
        rw [hnx] at h
        obtain ⟨hu, hI2, hμ⟩ := h
        obtain ⟨rfl, rfl, rfl, rfl, rfl⟩ := hu
        exact ⟨(t9', t10'), ⟨e9', e10', e0', e1', e5', e7', e8'⟩, hI2, hμ⟩
  · intro ρ w h
    obtain ⟨d_0, e0, h⟩ := asL_el h
    obtain ⟨t5, e5, h⟩ := asP_el h
    obtain ⟨t7, e7, h⟩ := asP_el h
    obtain ⟨t8, e8, h⟩ := asL_el h
    obtain ⟨t9, e9, h⟩ := asL_el h
    refine reroot e0 (reroot (upd_other e5 rfl) (reroot (upd_other (upd_other e7 rfl) rfl) (reroot (upd_other (upd_other (upd_other e8 rfl) rfl) rfl) (reroot (upd_other (upd_other (upd_other (upd_other e9 rfl) rfl) rfl) rfl) ?_))))
    refine wpc_pre2 hmix (fun ρ w => asP (ρ 5) fun t5 => asL (ρ 9) fun t9 => asP (ρ 13) fun t13 => trovelaw5_HuffBack.j6 t5 t9 t13 Q w) (Eq.mp (by kernel_rfl) h) ?_
    intro ρ w h
    obtain ⟨t5, e5, h⟩ := asP_el h
    obtain ⟨t9, e9, h⟩ := asL_el h
    obtain ⟨t13, e13, h⟩ := asP_el h
    refine reroot e5 (reroot (upd_other e9 rfl) (reroot (upd_other (upd_other e13 rfl) rfl) ?_))
    refine wpc_seq (fun ρ w =>  trovelaw5_HuffBack.j7  Q w) ?_ ?_
    · skip
      refine wpc_seq (fun ρ w => asP (ρ 5) fun t5 => asL (ρ 9) fun t9 => asP (ρ 13) fun t13 => asI .i64 (ρ 14) fun t14 => trovelaw5_HuffBack.j8 t5 t9 t13 t14 Q w) ?_ ?_
      · skip
        exact pt_sound hmix _ (Eq.mp (by kernel_rfl) h)
      · intro ρ w h
        obtain ⟨t5, e5, h⟩ := asP_el h
        obtain ⟨t9, e9, h⟩ := asL_el h
        obtain ⟨t13, e13, h⟩ := asP_el h
        obtain ⟨t14, e14, h⟩ := asI_el h
        refine reroot e5 (reroot (upd_other e9 rfl) (reroot (upd_other (upd_other e13 rfl) rfl) (reroot (upd_other (upd_other (upd_other e14 rfl) rfl) rfl) ?_)))
        refine wpc_block ?_
        obtain ⟨I, μ, hI, hr⟩ := h
        refine wpc_loopS (α := Int) (fun s ρ => ρ 14 = .int .i64 s ∧ ρ 5 = .pointer t5 ∧ ρ 9 = .slice t9.a t9.len t9.cap ∧ ρ 13 = .pointer t13) (fun s w => I s w) (fun s w => μ s w) t14 ⟨rfl, rfl, rfl, rfl⟩ hI ?_
        rintro t14 ρ w ⟨e14, e5, e9, e13⟩ hI
        have h := hr t14 w hI
        clear hr
        obtain ⟨nx1, hnx⟩ : ∃ nx : (Option Addr) → Sl → (Option Addr) → Int → World → Prop, nx = (fun t5' t9' t13' t14' w' => (t5' = t5 ∧ t9' = t9 ∧ t13' = t13) ∧ I t14' w' ∧ μ t14' w' < μ t14 w) := ⟨_, rfl⟩
        rw [← hnx] at h
        refine wpc_norm (M := fun ρ w => asP (ρ 5) fun t5 => asL (ρ 9) fun t9 => asP (ρ 13) fun t13 => asI .i64 (ρ 14) fun t14 => nx1 t5 t9 t13 t14 w) ?_ (fun ρ w h => ?_)
        · skip
          refine reroot e5 (reroot (upd_other e9 rfl) (reroot (upd_other (upd_other e13 rfl) rfl) (reroot (upd_other (upd_other (upd_other e14 rfl) rfl) rfl) ?_)))
          exact pt_sound hmix _ (Eq.mp (by kernel_rfl) h)
        · skip
          obtain ⟨t5', e5', h⟩ := asP_el h
          obtain ⟨t9', e9', h⟩ := asL_el h
          obtain ⟨t13', e13', h⟩ := asP_el h
          obtain ⟨t14', e14', h⟩ := asI_el h
          rw [hnx] at h
          obtain ⟨hu, hI2, hμ⟩ := h
          obtain ⟨rfl, rfl, rfl⟩ := hu
          exact ⟨t14', ⟨e14', e5', e9', e13'⟩, hI2, hμ⟩
    · intro ρ w h
      exact pt_sound hmix _ (Eq.mp (by kernel_rfl) h)

end Go.Proofs.Ytkajimndclhgaaa
