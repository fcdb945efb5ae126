/- PRINTED BY gen.py (own work): what calls come to, and the proofs of it. -/
import Derived.Test.YtkajimndclhgaaaVcJ
import Derived.Test.YtkajimndclhgaaaProg
namespace Go.Proofs.Ytkajimndclhgaaa
open Go Go.Proofs
set_option linter.unusedVariables false
set_option maxRecDepth 100000

/-! trove/trovelaw2.known -/
def trovelaw2_known  (Q : Value → World → Prop) (w : World) : Prop :=
  Calls Try.prog 33 ⟨[]⟩ w fun e1 w2 =>
  ∃ r3 : (Option Addr), e1 = .returned (.pointer r3) ∧
  br (Option.isNone r3) (
  Q (.bool false) w2) (
  Calls Try.prog 34 ⟨[.pointer r3, .int .i64 5, .int .i64 3]⟩ w2 fun e4 w5 =>
  e4 = .returned (.tuple ⟨[]⟩) ∧
  Calls Try.prog 35 ⟨[.pointer r3, .int .i64 1, .int .i64 2]⟩ w5 fun e6 w7 =>
  e6 = .returned (.tuple ⟨[]⟩) ∧
  Calls Try.prog 44 ⟨[.pointer r3, .int .u8 9]⟩ w7 fun e8 w9 =>
  e8 = .returned (.tuple ⟨[]⟩) ∧
  Calls Try.prog 37 ⟨[.pointer r3]⟩ w9 fun e10 w11 =>
  ∃ r12 : Sl, e10 = .returned (.slice r12.a r12.len r12.cap) ∧
  Calls Try.prog 36 ⟨[.slice r12.a r12.len r12.cap]⟩ w11 fun e13 w14 =>
  ∃ r15 : (Option Addr), e13 = .returned (.pointer r15) ∧
  br (Option.isNone r15) (
  Q (.bool false) w14) (
  br ((((r12.len : Nat) : Int) : Int) != 2) (
  Q (.bool false) w14) (
  ixS r12.a r12.len 1 1 fun a16 =>
  ldI .u8 w14 a16 fun x17 =>
  br ((x17 : Int) != 9) (
  Q (.bool false) w14) (
  Calls Try.prog 38 ⟨[.pointer r15, .int .i64 3]⟩ w14 fun e18 w19 =>
  ∃ r20 : Int, ∃ r21 : Bool, e18 = .returned (.tuple ⟨[.int .i64 r20, .bool r21]⟩) ∧
  Calls Try.prog 38 ⟨[.pointer r15, .int .i64 2]⟩ w19 fun e22 w23 =>
  ∃ r24 : Int, ∃ r25 : Bool, e22 = .returned (.tuple ⟨[.int .i64 r24, .bool r25]⟩) ∧
  br ((r20 : Int) == 5) (
  br r21 (
  br ((r24 : Int) == 2) (
  Calls Try.prog 41 ⟨[.pointer r15]⟩ w23 fun e26 w27 =>
  ∃ r28 : Int, e26 = .returned (.int .i64 r28) ∧
  br ((r28 : Int) == 11) (
  Calls Try.prog 54 ⟨[.pointer r15]⟩ w27 fun e29 w30 =>
  ∃ r31 : Int, e29 = .returned (.int .i64 r31) ∧
  br ((r31 : Int) == 1) (
  Calls Try.prog 39 ⟨[.int .i64 1, .int .i64 3]⟩ w30 fun e32 w33 =>
  ∃ r34 : Int, e32 = .returned (.int .i64 r34) ∧
  Q (.bool ((r34 : Int) == 4)) w33) (
  Q (.bool false) w30)) (
  Q (.bool false) w27)) (
  Q (.bool false) w23)) (
  Q (.bool false) w23)) (
  Q (.bool false) w23)))))

theorem trovelaw2_known.ok  (Q : Value → World → Prop) (w : World) (h : trovelaw2_known  Q w) : Calls Try.prog 32 ⟨[]⟩ w (Ret Q) := by
  refine calls_of_wpc [.tmp 0] Try.func32 rfl rfl rfl rfl ?_
  exact pt_sound hmix _ (Eq.mp (by kernel_rfl) h)

/-! trove/trovelaw2.BitsBack -/
def trovelaw2_BitsBack.j5 (t5 : (Option Addr)) (Q : Value → World → Prop) (w : World) : Prop :=
  Calls Try.prog 41 ⟨[.pointer t5]⟩ w fun e1 w2 =>
  ∃ r3 : Int, e1 = .returned (.int .i64 r3) ∧
  Q (.bool (decide ((r3 : Int) < 8))) w2

def trovelaw2_BitsBack.b1 (d_0 : Sl) (t5 : (Option Addr)) (t6 : Int) (Q : Value → World → Prop) (nx1 : Sl → (Option Addr) → Int → World → Prop) (w : World) : Prop :=
  br (decide ((t6 : Int) < ((d_0.len : Nat) : Int))) (
  ixS d_0.a d_0.len t6 3 fun a4 =>
  ldI .i64 w (Addr.add a4 2) fun x5 =>
  br (decide ((x5 : Int) < 0)) (
  lt (IntKind.i64.wrap (t6 + 1)) fun x6 =>
  nx1 d_0 t5 x6 w) (
  br (decide ((x5 : Int) > 24)) (
  lt (IntKind.i64.wrap (t6 + 1)) fun x7 =>
  nx1 d_0 t5 x7 w) (
  ixS d_0.a d_0.len t6 3 fun a8 =>
  ldI .i64 w (Addr.add a8 1) fun x9 =>
  lt (IntKind.u64.wrap x5) fun x10 =>
  (0 : Int) ≤ x10 ∧
  lt (shlV .i64 1 x10) fun x11 =>
  lt (IntKind.i64.wrap (x11 - 1)) fun x12 =>
  lt (andV .i64 x9 x12) fun x13 =>
  Calls Try.prog 38 ⟨[.pointer t5, .int .i64 x5]⟩ w fun e14 w15 =>
  ∃ r16 : Int, ∃ r17 : Bool, e14 = .returned (.tuple ⟨[.int .i64 r16, .bool r17]⟩) ∧
  Calls Try.prog 38 ⟨[.pointer t5, .int .i64 x5]⟩ w15 fun e18 w19 =>
  ∃ r20 : Int, ∃ r21 : Bool, e18 = .returned (.tuple ⟨[.int .i64 r20, .bool r21]⟩) ∧
  lt (World.drew w19) fun w22 =>
  br (!r17) (
  (Q (.bool false) w22) ∧ (
  Q (.bool false) w22)) (
  br (!r21) (
  (Q (.bool false) w22) ∧ (
  Q (.bool false) w22)) (
  br ((r16 : Int) != x13) (
  (Q (.bool false) w22) ∧ (
  Q (.bool false) w22)) (
  Calls Try.prog 39 ⟨[.int .i64 r20, .int .i64 x5]⟩ w22 fun e23 w24 =>
  ∃ r25 : Int, e23 = .returned (.int .i64 r25) ∧
  br ((r25 : Int) != x13) (
  (Q (.bool false) w24) ∧ (
  Q (.bool false) w24)) (
  Calls Try.prog 39 ⟨[.int .i64 x13, .int .i64 x5]⟩ w24 fun e26 w27 =>
  ∃ r28 : Int, e26 = .returned (.int .i64 r28) ∧
  Calls Try.prog 39 ⟨[.int .i64 r28, .int .i64 x5]⟩ w27 fun e29 w30 =>
  ∃ r31 : Int, e29 = .returned (.int .i64 r31) ∧
  br ((r31 : Int) != x13) (
  (Q (.bool false) w30) ∧ (
  Q (.bool false) w30)) (
  ixS d_0.a d_0.len t6 3 fun a32 =>
  ldI .i64 w30 (Addr.add a32 1) fun x33 =>
  ixS d_0.a d_0.len t6 3 fun a34 =>
  (Calls Try.prog 39 ⟨[.int .i64 x33, .int .i64 x5]⟩ w30 fun e35 w36 =>
  ∃ r37 : Int, e35 = .returned (.int .i64 r37) ∧
  ldI .i64 w36 (Addr.add a34 1) fun x38 =>
  Calls Try.prog 40 ⟨[.int .i64 x38, .int .i64 x5]⟩ w36 fun e39 w40 =>
  ∃ r41 : Int, e39 = .returned (.int .i64 r41) ∧
  br ((r37 : Int) != r41) (
  Q (.bool false) w40) (
  lt (IntKind.i64.wrap (t6 + 1)) fun x42 =>
  nx1 d_0 t5 x42 w40)) ∧ (
  ldI .i64 w30 (Addr.add a34 1) fun x43 =>
  Calls Try.prog 39 ⟨[.int .i64 x33, .int .i64 x5]⟩ w30 fun e44 w45 =>
  ∃ r46 : Int, e44 = .returned (.int .i64 r46) ∧
  Calls Try.prog 40 ⟨[.int .i64 x43, .int .i64 x5]⟩ w45 fun e47 w48 =>
  ∃ r49 : Int, e47 = .returned (.int .i64 r49) ∧
  br ((r46 : Int) != r49) (
  Q (.bool false) w48) (
  lt (IntKind.i64.wrap (t6 + 1)) fun x50 =>
  nx1 d_0 t5 x50 w48)))))))))) (
  trovelaw2_BitsBack.j5 t5 Q w)

def trovelaw2_BitsBack.l1 (d_0 : Sl) (t5 : (Option Addr)) (t6 : Int) (Q : Value → World → Prop) (w : World) : Prop :=
  ∃ (I : Int → World → Prop) (μ : Int → World → Nat), I t6 w ∧ ∀ t6 : Int, ∀ w : World, I t6 w → trovelaw2_BitsBack.b1 d_0 t5 t6 Q (fun d_0' t5' t6' w' => (d_0' = d_0 ∧ t5' = t5) ∧ I t6' w' ∧ μ t6' w' < μ t6 w) w

def trovelaw2_BitsBack.j6 (d_0 : Sl) (t5 : (Option Addr)) (t6 : Int) (Q : Value → World → Prop) (w : World) : Prop :=
  trovelaw2_BitsBack.l1 d_0 t5 t6 Q w

def trovelaw2_BitsBack.j4 (d_0 : Sl) (t5 : (Option Addr)) (Q : Value → World → Prop) (w : World) : Prop :=
  trovelaw2_BitsBack.j6 d_0 t5 0 Q w

def trovelaw2_BitsBack.j3 (d_0 : Sl) (t3 : (Option Addr)) (Q : Value → World → Prop) (w : World) : Prop :=
  Calls Try.prog 37 ⟨[.pointer t3]⟩ w fun e51 w52 =>
  ∃ r53 : Sl, e51 = .returned (.slice r53.a r53.len r53.cap) ∧
  Calls Try.prog 36 ⟨[.slice r53.a r53.len r53.cap]⟩ w52 fun e54 w55 =>
  ∃ r56 : (Option Addr), e54 = .returned (.pointer r56) ∧
  trovelaw2_BitsBack.j4 d_0 r56 Q w55

def trovelaw2_BitsBack.b2 (d_0 : Sl) (t3 : (Option Addr)) (t4 : Int) (Q : Value → World → Prop) (nx2 : Sl → (Option Addr) → Int → World → Prop) (w : World) : Prop :=
  br (decide ((t4 : Int) < ((d_0.len : Nat) : Int))) (
  lt (World.drew w) fun w57 =>
  ixS d_0.a d_0.len t4 3 fun a58 =>
  ldI .i64 w57 (Addr.add a58 1) fun x59 =>
  ixS d_0.a d_0.len t4 3 fun a60 =>
  ldI .i64 w57 (Addr.add a60 2) fun x61 =>
  Calls Try.prog 34 ⟨[.pointer t3, .int .i64 x59, .int .i64 x61]⟩ w57 fun e62 w63 =>
  e62 = .returned (.tuple ⟨[]⟩) ∧
  lt (World.drew w63) fun w64 =>
  ixS d_0.a d_0.len t4 3 fun a65 =>
  ldI .i64 w64 (Addr.add a65 1) fun x66 =>
  ixS d_0.a d_0.len t4 3 fun a67 =>
  ldI .i64 w64 (Addr.add a67 2) fun x68 =>
  Calls Try.prog 35 ⟨[.pointer t3, .int .i64 x66, .int .i64 x68]⟩ w64 fun e69 w70 =>
  e69 = .returned (.tuple ⟨[]⟩) ∧
  lt (IntKind.i64.wrap (t4 + 1)) fun x71 =>
  nx2 d_0 t3 x71 w70) (
  trovelaw2_BitsBack.j3 d_0 t3 Q w)

def trovelaw2_BitsBack.l2 (d_0 : Sl) (t3 : (Option Addr)) (t4 : Int) (Q : Value → World → Prop) (w : World) : Prop :=
  ∃ (I : Int → World → Prop) (μ : Int → World → Nat), I t4 w ∧ ∀ t4 : Int, ∀ w : World, I t4 w → trovelaw2_BitsBack.b2 d_0 t3 t4 Q (fun d_0' t3' t4' w' => (d_0' = d_0 ∧ t3' = t3) ∧ I t4' w' ∧ μ t4' w' < μ t4 w) w

def trovelaw2_BitsBack.j7 (d_0 : Sl) (t3 : (Option Addr)) (t4 : Int) (Q : Value → World → Prop) (w : World) : Prop :=
  trovelaw2_BitsBack.l2 d_0 t3 t4 Q w

def trovelaw2_BitsBack.j2 (d_0 : Sl) (t3 : (Option Addr)) (Q : Value → World → Prop) (w : World) : Prop :=
  trovelaw2_BitsBack.j7 d_0 t3 0 Q w

def trovelaw2_BitsBack.j1 (d_0 : Sl) (Q : Value → World → Prop) (w : World) : Prop :=
  br (decide ((((d_0.len : Nat) : Int) : Int) > 400)) (
  Q (.bool true) w) (
  Calls Try.prog 33 ⟨[]⟩ w fun e72 w73 =>
  ∃ r74 : (Option Addr), e72 = .returned (.pointer r74) ∧
  trovelaw2_BitsBack.j2 d_0 r74 Q w73)

def trovelaw2_BitsBack (d_0 : Sl) (Q : Value → World → Prop) (w : World) : Prop :=
  Calls Try.prog 32 ⟨[]⟩ w fun e75 w76 =>
  ∃ r77 : Bool, e75 = .returned (.bool r77) ∧
  br (!r77) (
  Q (.bool false) w76) (
  trovelaw2_BitsBack.j1 d_0 Q w76)

theorem trovelaw2_BitsBack.ok (d_0 : Sl) (Q : Value → World → Prop) (w : World) (h : trovelaw2_BitsBack d_0 Q w) : Calls Try.prog 3 ⟨[.slice d_0.a d_0.len d_0.cap]⟩ w (Ret Q) := by
  refine calls_of_wpc [.tmp 2] Try.func3 rfl rfl rfl rfl ?_
  refine wpc_pre2 hmix (fun ρ w => asL (ρ 0) fun d_0 => trovelaw2_BitsBack.j1 d_0 Q w) (Eq.mp (by kernel_rfl) h) ?_
  intro ρ w h
  obtain ⟨d_0, e0, h⟩ := asL_el h
  refine reroot e0 ?_
  refine wpc_pre2 hmix (fun ρ w => asL (ρ 0) fun d_0 => asP (ρ 3) fun t3 => trovelaw2_BitsBack.j2 d_0 t3 Q w) (Eq.mp (by kernel_rfl) h) ?_
  intro ρ w h
  obtain ⟨d_0, e0, h⟩ := asL_el h
  obtain ⟨t3, e3, h⟩ := asP_el h
  refine reroot e0 (reroot (upd_other e3 rfl) ?_)
  refine wpc_seq (fun ρ w => asL (ρ 0) fun d_0 => asP (ρ 3) fun t3 => trovelaw2_BitsBack.j3 d_0 t3 Q w) ?_ ?_
  · skip
    refine wpc_seq (fun ρ w => asL (ρ 0) fun d_0 => asP (ρ 3) fun t3 => asI .i64 (ρ 4) fun t4 => trovelaw2_BitsBack.j7 d_0 t3 t4 Q w) ?_ ?_
    · skip
      exact pt_sound hmix _ (Eq.mp (by kernel_rfl) h)
    · intro ρ w h
      obtain ⟨d_0, e0, h⟩ := asL_el h
      obtain ⟨t3, e3, h⟩ := asP_el h
      obtain ⟨t4, e4, h⟩ := asI_el h
      refine reroot e0 (reroot (upd_other e3 rfl) (reroot (upd_other (upd_other e4 rfl) rfl) ?_))
      refine wpc_block ?_
      obtain ⟨I, μ, hI, hr⟩ := h
      refine wpc_loopS (α := Int) (fun s ρ => ρ 4 = .int .i64 s ∧ ρ 0 = .slice d_0.a d_0.len d_0.cap ∧ ρ 3 = .pointer t3) (fun s w => I s w) (fun s w => μ s w) t4 ⟨rfl, rfl, rfl⟩ hI ?_
      rintro t4 ρ w ⟨e4, e0, e3⟩ hI
      have h := hr t4 w hI
      clear hr
      obtain ⟨nx2, hnx⟩ : ∃ nx : Sl → (Option Addr) → Int → World → Prop, nx = (fun d_0' t3' t4' w' => (d_0' = d_0 ∧ t3' = t3) ∧ I t4' w' ∧ μ t4' w' < μ t4 w) := ⟨_, rfl⟩
      rw [← hnx] at h
      refine wpc_norm (M := fun ρ w => asL (ρ 0) fun d_0 => asP (ρ 3) fun t3 => asI .i64 (ρ 4) fun t4 => nx2 d_0 t3 t4 w) ?_ (fun ρ w h => ?_)
      · skip
        refine reroot e0 (reroot (upd_other e3 rfl) (reroot (upd_other (upd_other e4 rfl) rfl) ?_))
        exact pt_sound hmix _ (Eq.mp (by kernel_rfl) h)
      · skip
        obtain ⟨d_0', e0', h⟩ := asL_el h
        obtain ⟨t3', e3', h⟩ := asP_el h
        obtain ⟨t4', e4', h⟩ := asI_el h
        rw [hnx] at h
        obtain ⟨hu, hI2, hμ⟩ := h
        obtain ⟨rfl, rfl⟩ := hu
        exact ⟨t4', ⟨e4', e0', e3'⟩, hI2, hμ⟩
  · intro ρ w h
    obtain ⟨d_0, e0, h⟩ := asL_el h
    obtain ⟨t3, e3, h⟩ := asP_el h
    refine reroot e0 (reroot (upd_other e3 rfl) ?_)
    refine wpc_seq (fun ρ w => asL (ρ 0) fun d_0 => asP (ρ 5) fun t5 => trovelaw2_BitsBack.j4 d_0 t5 Q w) ?_ ?_
    · skip
      exact pt_sound hmix _ (Eq.mp (by kernel_rfl) h)
    · intro ρ w h
      obtain ⟨d_0, e0, h⟩ := asL_el h
      obtain ⟨t5, e5, h⟩ := asP_el h
      refine reroot e0 (reroot (upd_other e5 rfl) ?_)
      refine wpc_seq (fun ρ w => asP (ρ 5) fun t5 => trovelaw2_BitsBack.j5 t5 Q w) ?_ ?_
      · skip
        refine wpc_seq (fun ρ w => asL (ρ 0) fun d_0 => asP (ρ 5) fun t5 => asI .i64 (ρ 6) fun t6 => trovelaw2_BitsBack.j6 d_0 t5 t6 Q w) ?_ ?_
        · skip
          exact pt_sound hmix _ (Eq.mp (by kernel_rfl) h)
        · intro ρ w h
          obtain ⟨d_0, e0, h⟩ := asL_el h
          obtain ⟨t5, e5, h⟩ := asP_el h
          obtain ⟨t6, e6, h⟩ := asI_el h
          refine reroot e0 (reroot (upd_other e5 rfl) (reroot (upd_other (upd_other e6 rfl) rfl) ?_))
          refine wpc_block ?_
          obtain ⟨I, μ, hI, hr⟩ := h
          refine wpc_loopS (α := Int) (fun s ρ => ρ 6 = .int .i64 s ∧ ρ 0 = .slice d_0.a d_0.len d_0.cap ∧ ρ 5 = .pointer t5) (fun s w => I s w) (fun s w => μ s w) t6 ⟨rfl, rfl, rfl⟩ hI ?_
          rintro t6 ρ w ⟨e6, e0, e5⟩ hI
          have h := hr t6 w hI
          clear hr
          obtain ⟨nx1, hnx⟩ : ∃ nx : Sl → (Option Addr) → Int → World → Prop, nx = (fun d_0' t5' t6' w' => (d_0' = d_0 ∧ t5' = t5) ∧ I t6' w' ∧ μ t6' w' < μ t6 w) := ⟨_, rfl⟩
          rw [← hnx] at h
          refine wpc_norm (M := fun ρ w => asL (ρ 0) fun d_0 => asP (ρ 5) fun t5 => asI .i64 (ρ 6) fun t6 => nx1 d_0 t5 t6 w) ?_ (fun ρ w h => ?_)
          · skip
            refine reroot e0 (reroot (upd_other e5 rfl) (reroot (upd_other (upd_other e6 rfl) rfl) ?_))
            exact pt_sound hmix _ (Eq.mp (by kernel_rfl) h)
          · skip
            obtain ⟨d_0', e0', h⟩ := asL_el h
            obtain ⟨t5', e5', h⟩ := asP_el h
            obtain ⟨t6', e6', h⟩ := asI_el h
            rw [hnx] at h
            obtain ⟨hu, hI2, hμ⟩ := h
            obtain ⟨rfl, rfl⟩ := hu
            exact ⟨t6', ⟨e6', e0', e5'⟩, hI2, hμ⟩
      · intro ρ w h
        obtain ⟨t5, e5, h⟩ := asP_el h
        refine reroot e5 ?_
        exact pt_sound hmix _ (Eq.mp (by kernel_rfl) h)

/-! trove/trovelaw2.BitsWrites -/
def trovelaw2_BitsWrites.j4 (t3 : (Option Addr)) (t4 : (Option Addr)) (Q : Value → World → Prop) (w : World) : Prop :=
  lt (World.drew w) fun w1 =>
  Calls Try.prog 37 ⟨[.pointer t3]⟩ w1 fun e2 w3 =>
  ∃ r4 : Sl, e2 = .returned (.slice r4.a r4.len r4.cap) ∧
  (btS w3 r4.a r4.len fun x5 =>
  Calls Try.prog 49 ⟨[.pointer t4]⟩ w3 fun e6 w7 =>
  ∃ r8 : Sl, e6 = .returned (.slice r8.a r8.len r8.cap) ∧
  btS w7 r8.a r8.len fun x9 =>
  Q (.bool (ByteArray.toList x5 == ByteArray.toList x9)) w7) ∧ (
  Calls Try.prog 49 ⟨[.pointer t4]⟩ w3 fun e10 w11 =>
  ∃ r12 : Sl, e10 = .returned (.slice r12.a r12.len r12.cap) ∧
  (btS w11 r4.a r4.len fun x13 =>
  btS w11 r12.a r12.len fun x14 =>
  Q (.bool (ByteArray.toList x13 == ByteArray.toList x14)) w11) ∧ (
  btS w11 r12.a r12.len fun x15 =>
  btS w11 r4.a r4.len fun x16 =>
  Q (.bool (ByteArray.toList x16 == ByteArray.toList x15)) w11))

def trovelaw2_BitsWrites.j7 (d_0 : Sl) (t3 : (Option Addr)) (t4 : (Option Addr)) (t5 : Int) (Q : Value → World → Prop) (nx1 : Sl → (Option Addr) → (Option Addr) → Int → World → Prop) (w : World) : Prop :=
  lt (IntKind.i64.wrap (t5 + 1)) fun x17 =>
  nx1 d_0 t3 t4 x17 w

def trovelaw2_BitsWrites.j8 (d_0 : Sl) (t3 : (Option Addr)) (t4 : (Option Addr)) (t5 : Int) (Q : Value → World → Prop) (nx1 : Sl → (Option Addr) → (Option Addr) → Int → World → Prop) (w : World) : Prop :=
  lt (World.drew w) fun w18 =>
  nz t4 fun a19 =>
  (Calls Try.prog 48 ⟨[.pointer t3]⟩ w18 fun e20 w21 =>
  ∃ r22 : Int, e20 = .returned (.int .i64 r22) ∧
  ldL w21 (Addr.add a19 0) fun x23 =>
  br ((r22 : Int) != ((x23.len : Nat) : Int)) (
  Q (.bool false) w21) (
  trovelaw2_BitsWrites.j7 d_0 t3 t4 t5 Q nx1 w21)) ∧ (
  ldL w18 (Addr.add a19 0) fun x24 =>
  Calls Try.prog 48 ⟨[.pointer t3]⟩ w18 fun e25 w26 =>
  ∃ r27 : Int, e25 = .returned (.int .i64 r27) ∧
  br ((r27 : Int) != ((x24.len : Nat) : Int)) (
  Q (.bool false) w26) (
  trovelaw2_BitsWrites.j7 d_0 t3 t4 t5 Q nx1 w26))

def trovelaw2_BitsWrites.j6 (d_0 : Sl) (t3 : (Option Addr)) (t4 : (Option Addr)) (t5 : Int) (Q : Value → World → Prop) (nx1 : Sl → (Option Addr) → (Option Addr) → Int → World → Prop) (w : World) : Prop :=
  ixS d_0.a d_0.len t5 3 fun a28 =>
  ldA w a28 3 fun c29 =>
  lt (⟨World.heapSize w, 0, none⟩ : Addr) fun a30 =>
  lt (World.alloc w (.cells (zc Try.prog 28) 28)) fun w31 =>
  (c29).size = 3 ∧
  stA w31 a30 c29 fun w32 =>
  ldI .i64 w32 (Addr.add a30 0) fun x33 =>
  br ((x33 : Int) == 1) (
  ldI .i64 w32 (Addr.add a30 1) fun x34 =>
  ldI .i64 w32 (Addr.add a30 2) fun x35 =>
  Calls Try.prog 34 ⟨[.pointer t3, .int .i64 x34, .int .i64 x35]⟩ w32 fun e36 w37 =>
  e36 = .returned (.tuple ⟨[]⟩) ∧
  ldI .i64 w37 (Addr.add a30 1) fun x38 =>
  ldI .i64 w37 (Addr.add a30 2) fun x39 =>
  Calls Try.prog 42 ⟨[.pointer t4, .int .i64 x38, .int .i64 x39]⟩ w37 fun e40 w41 =>
  e40 = .returned (.tuple ⟨[]⟩) ∧
  trovelaw2_BitsWrites.j8 d_0 t3 t4 t5 Q nx1 w41) (
  br ((x33 : Int) == 2) (
  ldI .i64 w32 (Addr.add a30 1) fun x42 =>
  ldI .i64 w32 (Addr.add a30 2) fun x43 =>
  Calls Try.prog 35 ⟨[.pointer t3, .int .i64 x42, .int .i64 x43]⟩ w32 fun e44 w45 =>
  e44 = .returned (.tuple ⟨[]⟩) ∧
  ldI .i64 w45 (Addr.add a30 1) fun x46 =>
  ldI .i64 w45 (Addr.add a30 2) fun x47 =>
  Calls Try.prog 43 ⟨[.pointer t4, .int .i64 x46, .int .i64 x47]⟩ w45 fun e48 w49 =>
  e48 = .returned (.tuple ⟨[]⟩) ∧
  trovelaw2_BitsWrites.j8 d_0 t3 t4 t5 Q nx1 w49) (
  br ((x33 : Int) == 3) (
  ldI .i64 w32 (Addr.add a30 1) fun x50 =>
  lt (IntKind.u8.wrap x50) fun x51 =>
  Calls Try.prog 44 ⟨[.pointer t3, .int .u8 x51]⟩ w32 fun e52 w53 =>
  e52 = .returned (.tuple ⟨[]⟩) ∧
  ldI .i64 w53 (Addr.add a30 1) fun x54 =>
  lt (IntKind.u8.wrap x54) fun x55 =>
  Calls Try.prog 45 ⟨[.pointer t4, .int .u8 x55]⟩ w53 fun e56 w57 =>
  e56 = .returned (.tuple ⟨[]⟩) ∧
  trovelaw2_BitsWrites.j8 d_0 t3 t4 t5 Q nx1 w57) (
  Calls Try.prog 46 ⟨[.pointer t3]⟩ w32 fun e58 w59 =>
  e58 = .returned (.tuple ⟨[]⟩) ∧
  Calls Try.prog 47 ⟨[.pointer t4]⟩ w59 fun e60 w61 =>
  e60 = .returned (.tuple ⟨[]⟩) ∧
  trovelaw2_BitsWrites.j8 d_0 t3 t4 t5 Q nx1 w61)))

def trovelaw2_BitsWrites.b1 (d_0 : Sl) (t3 : (Option Addr)) (t4 : (Option Addr)) (t5 : Int) (Q : Value → World → Prop) (nx1 : Sl → (Option Addr) → (Option Addr) → Int → World → Prop) (w : World) : Prop :=
  br (decide ((t5 : Int) < ((d_0.len : Nat) : Int))) (
  trovelaw2_BitsWrites.j6 d_0 t3 t4 t5 Q nx1 w) (
  trovelaw2_BitsWrites.j4 t3 t4 Q w)

def trovelaw2_BitsWrites.l1 (d_0 : Sl) (t3 : (Option Addr)) (t4 : (Option Addr)) (t5 : Int) (Q : Value → World → Prop) (w : World) : Prop :=
  ∃ (I : Int → World → Prop) (μ : Int → World → Nat), I t5 w ∧ ∀ t5 : Int, ∀ w : World, I t5 w → trovelaw2_BitsWrites.b1 d_0 t3 t4 t5 Q (fun d_0' t3' t4' t5' w' => (d_0' = d_0 ∧ t3' = t3 ∧ t4' = t4) ∧ I t5' w' ∧ μ t5' w' < μ t5 w) w

def trovelaw2_BitsWrites.j5 (d_0 : Sl) (t3 : (Option Addr)) (t4 : (Option Addr)) (t5 : Int) (Q : Value → World → Prop) (w : World) : Prop :=
  trovelaw2_BitsWrites.l1 d_0 t3 t4 t5 Q w

def trovelaw2_BitsWrites.j3 (d_0 : Sl) (t3 : (Option Addr)) (t4 : (Option Addr)) (Q : Value → World → Prop) (w : World) : Prop :=
  trovelaw2_BitsWrites.j5 d_0 t3 t4 0 Q w

def trovelaw2_BitsWrites.j2 (d_0 : Sl) (Q : Value → World → Prop) (w : World) : Prop :=
  Calls Try.prog 33 ⟨[]⟩ w fun e62 w63 =>
  ∃ r64 : (Option Addr), e62 = .returned (.pointer r64) ∧
  lt (⟨World.heapSize w63, 0, none⟩ : Addr) fun a65 =>
  lt (World.alloc w63 (.cells (⟨[.slice none 0 0]⟩ : Array Value) 42)) fun w66 =>
  trovelaw2_BitsWrites.j3 d_0 r64 (some a65) Q w66

def trovelaw2_BitsWrites.j1 (d_0 : Sl) (Q : Value → World → Prop) (w : World) : Prop :=
  Calls Try.prog 32 ⟨[]⟩ w fun e67 w68 =>
  ∃ r69 : Bool, e67 = .returned (.bool r69) ∧
  br (!r69) (
  Q (.bool false) w68) (
  br (decide ((((d_0.len : Nat) : Int) : Int) > 400)) (
  Q (.bool true) w68) (
  trovelaw2_BitsWrites.j2 d_0 Q w68))

def trovelaw2_BitsWrites (d_0 : Sl) (Q : Value → World → Prop) (w : World) : Prop :=
  trovelaw2_BitsWrites.j1 d_0 Q w

theorem trovelaw2_BitsWrites.ok (d_0 : Sl) (Q : Value → World → Prop) (w : World) (h : trovelaw2_BitsWrites d_0 Q w) : Calls Try.prog 4 ⟨[.slice d_0.a d_0.len d_0.cap]⟩ w (Ret Q) := by
  refine calls_of_wpc [.tmp 2] Try.func4 rfl rfl rfl rfl ?_
  refine wpc_seq (fun ρ w => asL (ρ 0) fun d_0 => trovelaw2_BitsWrites.j1 d_0 Q w) ?_ ?_
  · skip
    exact pt_sound hmix _ (Eq.mp (by kernel_rfl) h)
  · intro ρ w h
    obtain ⟨d_0, e0, h⟩ := asL_el h
    refine reroot e0 ?_
    refine wpc_pre2 hmix (fun ρ w => asL (ρ 0) fun d_0 => trovelaw2_BitsWrites.j2 d_0 Q w) (Eq.mp (by kernel_rfl) h) ?_
    intro ρ w h
    obtain ⟨d_0, e0, h⟩ := asL_el h
    refine reroot e0 ?_
    refine wpc_pre2 hmix (fun ρ w => asL (ρ 0) fun d_0 => asP (ρ 3) fun t3 => asP (ρ 4) fun t4 => trovelaw2_BitsWrites.j3 d_0 t3 t4 Q w) (Eq.mp (by kernel_rfl) h) ?_
    intro ρ w h
    obtain ⟨d_0, e0, h⟩ := asL_el h
    obtain ⟨t3, e3, h⟩ := asP_el h
    obtain ⟨t4, e4, h⟩ := asP_el h
    refine reroot e0 (reroot (upd_other e3 rfl) (reroot (upd_other (upd_other e4 rfl) rfl) ?_))
    refine wpc_seq (fun ρ w => asP (ρ 3) fun t3 => asP (ρ 4) fun t4 => trovelaw2_BitsWrites.j4 t3 t4 Q w) ?_ ?_
    · skip
      refine wpc_seq (fun ρ w => asL (ρ 0) fun d_0 => asP (ρ 3) fun t3 => asP (ρ 4) fun t4 => asI .i64 (ρ 5) fun t5 => trovelaw2_BitsWrites.j5 d_0 t3 t4 t5 Q w) ?_ ?_
      · skip
        exact pt_sound hmix _ (Eq.mp (by kernel_rfl) h)
      · intro ρ w h
        obtain ⟨d_0, e0, h⟩ := asL_el h
        obtain ⟨t3, e3, h⟩ := asP_el h
        obtain ⟨t4, e4, h⟩ := asP_el h
        obtain ⟨t5, e5, h⟩ := asI_el h
        refine reroot e0 (reroot (upd_other e3 rfl) (reroot (upd_other (upd_other e4 rfl) rfl) (reroot (upd_other (upd_other (upd_other e5 rfl) rfl) rfl) ?_)))
        refine wpc_block ?_
        obtain ⟨I, μ, hI, hr⟩ := h
        refine wpc_loopS (α := Int) (fun s ρ => ρ 5 = .int .i64 s ∧ ρ 0 = .slice d_0.a d_0.len d_0.cap ∧ ρ 3 = .pointer t3 ∧ ρ 4 = .pointer t4) (fun s w => I s w) (fun s w => μ s w) t5 ⟨rfl, rfl, rfl, rfl⟩ hI ?_
        rintro t5 ρ w ⟨e5, e0, e3, e4⟩ hI
        have h := hr t5 w hI
        clear hr
        obtain ⟨nx1, hnx⟩ : ∃ nx : Sl → (Option Addr) → (Option Addr) → Int → World → Prop, nx = (fun d_0' t3' t4' t5' w' => (d_0' = d_0 ∧ t3' = t3 ∧ t4' = t4) ∧ I t5' w' ∧ μ t5' w' < μ t5 w) := ⟨_, rfl⟩
        rw [← hnx] at h
        refine wpc_norm (M := fun ρ w => asL (ρ 0) fun d_0 => asP (ρ 3) fun t3 => asP (ρ 4) fun t4 => asI .i64 (ρ 5) fun t5 => nx1 d_0 t3 t4 t5 w) ?_ (fun ρ w h => ?_)
        · skip
          refine reroot e0 (reroot (upd_other e3 rfl) (reroot (upd_other (upd_other e4 rfl) rfl) (reroot (upd_other (upd_other (upd_other e5 rfl) rfl) rfl) ?_)))
          refine wpc_seq (fun ρ w => asL (ρ 0) fun d_0 => asP (ρ 3) fun t3 => asP (ρ 4) fun t4 => asI .i64 (ρ 5) fun t5 => trovelaw2_BitsWrites.j6 d_0 t3 t4 t5 Q nx1 w) ?_ ?_
          · skip
            exact pt_sound hmix _ (Eq.mp (by kernel_rfl) h)
          · intro ρ w h
            obtain ⟨d_0, e0, h⟩ := asL_el h
            obtain ⟨t3, e3, h⟩ := asP_el h
            obtain ⟨t4, e4, h⟩ := asP_el h
            obtain ⟨t5, e5, h⟩ := asI_el h
            refine reroot e0 (reroot (upd_other e3 rfl) (reroot (upd_other (upd_other e4 rfl) rfl) (reroot (upd_other (upd_other (upd_other e5 rfl) rfl) rfl) ?_)))
            refine wpc_seq (fun ρ w => asL (ρ 0) fun d_0 => asP (ρ 3) fun t3 => asP (ρ 4) fun t4 => asI .i64 (ρ 5) fun t5 => trovelaw2_BitsWrites.j7 d_0 t3 t4 t5 Q nx1 w) ?_ ?_
            · skip
              refine wpc_block ?_
              refine wpc_pre2 hmix (fun ρ w => asL (ρ 0) fun d_0 => asP (ρ 3) fun t3 => asP (ρ 4) fun t4 => asI .i64 (ρ 5) fun t5 => trovelaw2_BitsWrites.j8 d_0 t3 t4 t5 Q nx1 w) (Eq.mp (by kernel_rfl) h) ?_
              intro ρ w h
              obtain ⟨d_0, e0, h⟩ := asL_el h
              obtain ⟨t3, e3, h⟩ := asP_el h
              obtain ⟨t4, e4, h⟩ := asP_el h
              obtain ⟨t5, e5, h⟩ := asI_el h
              refine reroot e0 (reroot (upd_other e3 rfl) (reroot (upd_other (upd_other e4 rfl) rfl) (reroot (upd_other (upd_other (upd_other e5 rfl) rfl) rfl) ?_)))
              exact pt_sound hmix _ (Eq.mp (by kernel_rfl) h)
            · intro ρ w h
              obtain ⟨d_0, e0, h⟩ := asL_el h
              obtain ⟨t3, e3, h⟩ := asP_el h
              obtain ⟨t4, e4, h⟩ := asP_el h
              obtain ⟨t5, e5, h⟩ := asI_el h
              refine reroot e0 (reroot (upd_other e3 rfl) (reroot (upd_other (upd_other e4 rfl) rfl) (reroot (upd_other (upd_other (upd_other e5 rfl) rfl) rfl) ?_)))
              exact pt_sound hmix _ (Eq.mp (by kernel_rfl) h)
        · skip
          obtain ⟨d_0', e0', h⟩ := asL_el h
          obtain ⟨t3', e3', h⟩ := asP_el h
          obtain ⟨t4', e4', h⟩ := asP_el h
          obtain ⟨t5', e5', h⟩ := asI_el h
          rw [hnx] at h
          obtain ⟨hu, hI2, hμ⟩ := h
          obtain ⟨rfl, rfl, rfl⟩ := hu
          exact ⟨t5', ⟨e5', e0', e3', e4'⟩, hI2, hμ⟩
    · intro ρ w h
      obtain ⟨t3, e3, h⟩ := asP_el h
      obtain ⟨t4, e4, h⟩ := asP_el h
      refine reroot e3 (reroot (upd_other e4 rfl) ?_)
      exact pt_sound hmix _ (Eq.mp (by kernel_rfl) h)

/-! trove/trovelaw2.BitsReads -/
def trovelaw2_BitsReads.j4  (Q : Value → World → Prop) (w : World) : Prop :=
  Q (.bool true) w

def trovelaw2_BitsReads.j7 (i_1 : Sl) (t5 : (Option Addr)) (t6 : (Option Addr)) (t7 : Int) (Q : Value → World → Prop) (nx1 : Sl → (Option Addr) → (Option Addr) → Int → World → Prop) (w : World) : Prop :=
  lt (IntKind.i64.wrap (t7 + 1)) fun x1 =>
  nx1 i_1 t5 t6 x1 w

def trovelaw2_BitsReads.j8 (i_1 : Sl) (t5 : (Option Addr)) (t6 : (Option Addr)) (t7 : Int) (Q : Value → World → Prop) (nx1 : Sl → (Option Addr) → (Option Addr) → Int → World → Prop) (w : World) : Prop :=
  Calls Try.prog 41 ⟨[.pointer t5]⟩ w fun e2 w3 =>
  ∃ r4 : Int, e2 = .returned (.int .i64 r4) ∧
  Calls Try.prog 53 ⟨[.pointer t6]⟩ w3 fun e5 w6 =>
  ∃ r7 : Int, e5 = .returned (.int .i64 r7) ∧
  br ((r4 : Int) != r7) (
  Q (.bool false) w6) (
  Calls Try.prog 54 ⟨[.pointer t5]⟩ w6 fun e8 w9 =>
  ∃ r10 : Int, e8 = .returned (.int .i64 r10) ∧
  Calls Try.prog 55 ⟨[.pointer t6]⟩ w9 fun e11 w12 =>
  ∃ r13 : Int, e11 = .returned (.int .i64 r13) ∧
  br ((r10 : Int) != r13) (
  Q (.bool false) w12) (
  trovelaw2_BitsReads.j7 i_1 t5 t6 t7 Q nx1 w12))

def trovelaw2_BitsReads.j6 (i_1 : Sl) (t5 : (Option Addr)) (t6 : (Option Addr)) (t7 : Int) (Q : Value → World → Prop) (nx1 : Sl → (Option Addr) → (Option Addr) → Int → World → Prop) (w : World) : Prop :=
  ixS i_1.a i_1.len t7 1 fun a14 =>
  ldI .i64 w a14 fun x15 =>
  br ((x15 : Int) == (-1)) (
  Calls Try.prog 50 ⟨[.pointer t5]⟩ w fun e16 w17 =>
  e16 = .returned (.tuple ⟨[]⟩) ∧
  Calls Try.prog 51 ⟨[.pointer t6]⟩ w17 fun e18 w19 =>
  e18 = .returned (.tuple ⟨[]⟩) ∧
  trovelaw2_BitsReads.j8 i_1 t5 t6 t7 Q nx1 w19) (
  ixS i_1.a i_1.len t7 1 fun a20 =>
  ldI .i64 w a20 fun x21 =>
  Calls Try.prog 38 ⟨[.pointer t5, .int .i64 x21]⟩ w fun e22 w23 =>
  ∃ r24 : Int, ∃ r25 : Bool, e22 = .returned (.tuple ⟨[.int .i64 r24, .bool r25]⟩) ∧
  ixS i_1.a i_1.len t7 1 fun a26 =>
  ldI .i64 w23 a26 fun x27 =>
  Calls Try.prog 52 ⟨[.pointer t6, .int .i64 x27]⟩ w23 fun e28 w29 =>
  ∃ r30 : Int, ∃ r31 : Bool, e28 = .returned (.tuple ⟨[.int .i64 r30, .bool r31]⟩) ∧
  br ((r24 : Int) != r30) (
  Q (.bool false) w29) (
  br (!(r25 == r31)) (
  Q (.bool false) w29) (
  trovelaw2_BitsReads.j8 i_1 t5 t6 t7 Q nx1 w29)))

def trovelaw2_BitsReads.b1 (i_1 : Sl) (t5 : (Option Addr)) (t6 : (Option Addr)) (t7 : Int) (Q : Value → World → Prop) (nx1 : Sl → (Option Addr) → (Option Addr) → Int → World → Prop) (w : World) : Prop :=
  br (decide ((t7 : Int) < ((i_1.len : Nat) : Int))) (
  trovelaw2_BitsReads.j6 i_1 t5 t6 t7 Q nx1 w) (
  trovelaw2_BitsReads.j4 Q w)

def trovelaw2_BitsReads.l1 (i_1 : Sl) (t5 : (Option Addr)) (t6 : (Option Addr)) (t7 : Int) (Q : Value → World → Prop) (w : World) : Prop :=
  ∃ (I : Int → World → Prop) (μ : Int → World → Nat), I t7 w ∧ ∀ t7 : Int, ∀ w : World, I t7 w → trovelaw2_BitsReads.b1 i_1 t5 t6 t7 Q (fun i_1' t5' t6' t7' w' => (i_1' = i_1 ∧ t5' = t5 ∧ t6' = t6) ∧ I t7' w' ∧ μ t7' w' < μ t7 w) w

def trovelaw2_BitsReads.j5 (i_1 : Sl) (t5 : (Option Addr)) (t6 : (Option Addr)) (t7 : Int) (Q : Value → World → Prop) (w : World) : Prop :=
  trovelaw2_BitsReads.l1 i_1 t5 t6 t7 Q w

def trovelaw2_BitsReads.j3 (i_1 : Sl) (t5 : (Option Addr)) (t6 : (Option Addr)) (Q : Value → World → Prop) (w : World) : Prop :=
  trovelaw2_BitsReads.j5 i_1 t5 t6 0 Q w

def trovelaw2_BitsReads.j2 (d_0 : Sl) (i_1 : Sl) (Q : Value → World → Prop) (w : World) : Prop :=
  Calls Try.prog 36 ⟨[.slice d_0.a d_0.len d_0.cap]⟩ w fun e32 w33 =>
  ∃ r34 : (Option Addr), e32 = .returned (.pointer r34) ∧
  lt (⟨World.heapSize w33, 0, none⟩ : Addr) fun a35 =>
  lt (World.alloc w33 (.cells (⟨[.slice d_0.a d_0.len d_0.cap, .int .i64 0]⟩ : Array Value) 47)) fun w36 =>
  trovelaw2_BitsReads.j3 i_1 r34 (some a35) Q w36

def trovelaw2_BitsReads.j1 (d_0 : Sl) (i_1 : Sl) (Q : Value → World → Prop) (w : World) : Prop :=
  Calls Try.prog 32 ⟨[]⟩ w fun e37 w38 =>
  ∃ r39 : Bool, e37 = .returned (.bool r39) ∧
  br (!r39) (
  Q (.bool false) w38) (
  br (decide ((((d_0.len : Nat) : Int) : Int) > 2000)) (
  Q (.bool true) w38) (
  br (decide ((((i_1.len : Nat) : Int) : Int) > 400)) (
  Q (.bool true) w38) (
  trovelaw2_BitsReads.j2 d_0 i_1 Q w38)))

def trovelaw2_BitsReads (d_0 : Sl) (i_1 : Sl) (Q : Value → World → Prop) (w : World) : Prop :=
  trovelaw2_BitsReads.j1 d_0 i_1 Q w

theorem trovelaw2_BitsReads.ok (d_0 : Sl) (i_1 : Sl) (Q : Value → World → Prop) (w : World) (h : trovelaw2_BitsReads d_0 i_1 Q w) : Calls Try.prog 5 ⟨[.slice d_0.a d_0.len d_0.cap, .slice i_1.a i_1.len i_1.cap]⟩ w (Ret Q) := by
  refine calls_of_wpc [.tmp 4] Try.func5 rfl rfl rfl rfl ?_
  refine wpc_seq (fun ρ w => asL (ρ 0) fun d_0 => asL (ρ 1) fun i_1 => trovelaw2_BitsReads.j1 d_0 i_1 Q w) ?_ ?_
  · skip
    exact pt_sound hmix _ (Eq.mp (by kernel_rfl) h)
  · intro ρ w h
    obtain ⟨d_0, e0, h⟩ := asL_el h
    obtain ⟨i_1, e1, h⟩ := asL_el h
    refine reroot e0 (reroot (upd_other e1 rfl) ?_)
    refine wpc_pre2 hmix (fun ρ w => asL (ρ 0) fun d_0 => asL (ρ 1) fun i_1 => trovelaw2_BitsReads.j2 d_0 i_1 Q w) (Eq.mp (by kernel_rfl) h) ?_
    intro ρ w h
    obtain ⟨d_0, e0, h⟩ := asL_el h
    obtain ⟨i_1, e1, h⟩ := asL_el h
    refine reroot e0 (reroot (upd_other e1 rfl) ?_)
    refine wpc_pre2 hmix (fun ρ w => asL (ρ 1) fun i_1 => asP (ρ 5) fun t5 => asP (ρ 6) fun t6 => trovelaw2_BitsReads.j3 i_1 t5 t6 Q w) (Eq.mp (by kernel_rfl) h) ?_
    intro ρ w h
    obtain ⟨i_1, e1, h⟩ := asL_el h
    obtain ⟨t5, e5, h⟩ := asP_el h
    obtain ⟨t6, e6, h⟩ := asP_el h
    refine reroot e1 (reroot (upd_other e5 rfl) (reroot (upd_other (upd_other e6 rfl) rfl) ?_))
    refine wpc_seq (fun ρ w =>  trovelaw2_BitsReads.j4  Q w) ?_ ?_
    · skip
      refine wpc_seq (fun ρ w => asL (ρ 1) fun i_1 => asP (ρ 5) fun t5 => asP (ρ 6) fun t6 => asI .i64 (ρ 7) fun t7 => trovelaw2_BitsReads.j5 i_1 t5 t6 t7 Q w) ?_ ?_
      · skip
        exact pt_sound hmix _ (Eq.mp (by kernel_rfl) h)
      · intro ρ w h
        obtain ⟨i_1, e1, h⟩ := asL_el h
        obtain ⟨t5, e5, h⟩ := asP_el h
        obtain ⟨t6, e6, h⟩ := asP_el h
        obtain ⟨t7, e7, h⟩ := asI_el h
        refine reroot e1 (reroot (upd_other e5 rfl) (reroot (upd_other (upd_other e6 rfl) rfl) (reroot (upd_other (upd_other (upd_other e7 rfl) rfl) rfl) ?_)))
        refine wpc_block ?_
        obtain ⟨I, μ, hI, hr⟩ := h
        refine wpc_loopS (α := Int) (fun s ρ => ρ 7 = .int .i64 s ∧ ρ 1 = .slice i_1.a i_1.len i_1.cap ∧ ρ 5 = .pointer t5 ∧ ρ 6 = .pointer t6) (fun s w => I s w) (fun s w => μ s w) t7 ⟨rfl, rfl, rfl, rfl⟩ hI ?_
        rintro t7 ρ w ⟨e7, e1, e5, e6⟩ hI
        have h := hr t7 w hI
        clear hr
        obtain ⟨nx1, hnx⟩ : ∃ nx : Sl → (Option Addr) → (Option Addr) → Int → World → Prop, nx = (fun i_1' t5' t6' t7' w' => (i_1' = i_1 ∧ t5' = t5 ∧ t6' = t6) ∧ I t7' w' ∧ μ t7' w' < μ t7 w) := ⟨_, rfl⟩
        rw [← hnx] at h
        refine wpc_norm (M := fun ρ w => asL (ρ 1) fun i_1 => asP (ρ 5) fun t5 => asP (ρ 6) fun t6 => asI .i64 (ρ 7) fun t7 => nx1 i_1 t5 t6 t7 w) ?_ (fun ρ w h => ?_)
        · skip
          refine reroot e1 (reroot (upd_other e5 rfl) (reroot (upd_other (upd_other e6 rfl) rfl) (reroot (upd_other (upd_other (upd_other e7 rfl) rfl) rfl) ?_)))
          refine wpc_seq (fun ρ w => asL (ρ 1) fun i_1 => asP (ρ 5) fun t5 => asP (ρ 6) fun t6 => asI .i64 (ρ 7) fun t7 => trovelaw2_BitsReads.j6 i_1 t5 t6 t7 Q nx1 w) ?_ ?_
          · skip
            exact pt_sound hmix _ (Eq.mp (by kernel_rfl) h)
          · intro ρ w h
            obtain ⟨i_1, e1, h⟩ := asL_el h
            obtain ⟨t5, e5, h⟩ := asP_el h
            obtain ⟨t6, e6, h⟩ := asP_el h
            obtain ⟨t7, e7, h⟩ := asI_el h
            refine reroot e1 (reroot (upd_other e5 rfl) (reroot (upd_other (upd_other e6 rfl) rfl) (reroot (upd_other (upd_other (upd_other e7 rfl) rfl) rfl) ?_)))
            refine wpc_seq (fun ρ w => asL (ρ 1) fun i_1 => asP (ρ 5) fun t5 => asP (ρ 6) fun t6 => asI .i64 (ρ 7) fun t7 => trovelaw2_BitsReads.j7 i_1 t5 t6 t7 Q nx1 w) ?_ ?_
            · skip
              refine wpc_block ?_
              refine wpc_seq (fun ρ w => asL (ρ 1) fun i_1 => asP (ρ 5) fun t5 => asP (ρ 6) fun t6 => asI .i64 (ρ 7) fun t7 => trovelaw2_BitsReads.j8 i_1 t5 t6 t7 Q nx1 w) ?_ ?_
              · skip
                exact pt_sound hmix _ (Eq.mp (by kernel_rfl) h)
              · intro ρ w h
                obtain ⟨i_1, e1, h⟩ := asL_el h
                obtain ⟨t5, e5, h⟩ := asP_el h
                obtain ⟨t6, e6, h⟩ := asP_el h
                obtain ⟨t7, e7, h⟩ := asI_el h
                refine reroot e1 (reroot (upd_other e5 rfl) (reroot (upd_other (upd_other e6 rfl) rfl) (reroot (upd_other (upd_other (upd_other e7 rfl) rfl) rfl) ?_)))
                exact pt_sound hmix _ (Eq.mp (by kernel_rfl) h)
            · intro ρ w h
              obtain ⟨i_1, e1, h⟩ := asL_el h
              obtain ⟨t5, e5, h⟩ := asP_el h
              obtain ⟨t6, e6, h⟩ := asP_el h
              obtain ⟨t7, e7, h⟩ := asI_el h
              refine reroot e1 (reroot (upd_other e5 rfl) (reroot (upd_other (upd_other e6 rfl) rfl) (reroot (upd_other (upd_other (upd_other e7 rfl) rfl) rfl) ?_)))
              exact pt_sound hmix _ (Eq.mp (by kernel_rfl) h)
        · skip
          obtain ⟨i_1', e1', h⟩ := asL_el h
          obtain ⟨t5', e5', h⟩ := asP_el h
          obtain ⟨t6', e6', h⟩ := asP_el h
          obtain ⟨t7', e7', h⟩ := asI_el h
          rw [hnx] at h
          obtain ⟨hu, hI2, hμ⟩ := h
          obtain ⟨rfl, rfl, rfl⟩ := hu
          exact ⟨t7', ⟨e7', e1', e5', e6'⟩, hI2, hμ⟩
    · intro ρ w h
      exact pt_sound hmix _ (Eq.mp (by kernel_rfl) h)

/-! trove/trovelaw2.BitsSplit -/
def trovelaw2_BitsSplit.j6 (d_0 : Int) (i_1 : Int) (t2 : Int) (t3 : Int) (t9 : (Option Addr)) (Q : Value → World → Prop) (w : World) : Prop :=
  Calls Try.prog 37 ⟨[.pointer t9]⟩ w fun e1 w2 =>
  ∃ r3 : Sl, e1 = .returned (.slice r3.a r3.len r3.cap) ∧
  Calls Try.prog 36 ⟨[.slice r3.a r3.len r3.cap]⟩ w2 fun e4 w5 =>
  ∃ r6 : (Option Addr), e4 = .returned (.pointer r6) ∧
  Calls Try.prog 38 ⟨[.pointer r6, .int .i64 d_0]⟩ w5 fun e7 w8 =>
  ∃ r9 : Int, ∃ r10 : Bool, e7 = .returned (.tuple ⟨[.int .i64 r9, .bool r10]⟩) ∧
  Calls Try.prog 38 ⟨[.pointer r6, .int .i64 t3]⟩ w8 fun e11 w12 =>
  ∃ r13 : Int, ∃ r14 : Bool, e11 = .returned (.tuple ⟨[.int .i64 r13, .bool r14]⟩) ∧
  lt (IntKind.i64.wrap (t2 - t3)) fun x15 =>
  Calls Try.prog 38 ⟨[.pointer r6, .int .i64 x15]⟩ w12 fun e16 w17 =>
  ∃ r18 : Int, ∃ r19 : Bool, e16 = .returned (.tuple ⟨[.int .i64 r18, .bool r19]⟩) ∧
  br r14 (
  br r19 (
  lt (IntKind.u64.wrap t3) fun x20 =>
  (0 : Int) ≤ x20 ∧
  lt (shlV .i64 r18 x20) fun x21 =>
  lt (orV .i64 r13 x21) fun x22 =>
  lt (IntKind.u64.wrap t2) fun x23 =>
  (0 : Int) ≤ x23 ∧
  lt (shlV .i64 1 x23) fun x24 =>
  lt (IntKind.i64.wrap (x24 - 1)) fun x25 =>
  lt (andV .i64 i_1 x25) fun x26 =>
  br ((x22 : Int) == x26) (
  Calls Try.prog 54 ⟨[.pointer r6]⟩ w17 fun e27 w28 =>
  ∃ r29 : Int, e27 = .returned (.int .i64 r29) ∧
  lt (IntKind.i64.wrap (d_0 + t2)) fun x30 =>
  lt (IntKind.i64.wrap (x30 + 7)) fun x31 =>
  (8 : Int) ≠ 0 ∧
  lt (IntKind.i64.wrap (Int.tdiv x31 8)) fun x32 =>
  Q (.bool ((r29 : Int) == x32)) w28) (
  Q (.bool false) w17)) (
  Q (.bool false) w17)) (
  Q (.bool false) w17)

def trovelaw2_BitsSplit.j5 (d_0 : Int) (i_1 : Int) (t2 : Int) (t3 : Int) (t9 : (Option Addr)) (t10 : (Option Addr)) (Q : Value → World → Prop) (w : World) : Prop :=
  lt (IntKind.u64.wrap t3) fun x33 =>
  (0 : Int) ≤ x33 ∧
  lt (shrV .i64 i_1 x33) fun x34 =>
  lt (IntKind.i64.wrap (t2 - t3)) fun x35 =>
  Calls Try.prog 34 ⟨[.pointer t10, .int .i64 x34, .int .i64 x35]⟩ w fun e36 w37 =>
  e36 = .returned (.tuple ⟨[]⟩) ∧
  lt (World.drew w37) fun w38 =>
  Calls Try.prog 37 ⟨[.pointer t9]⟩ w38 fun e39 w40 =>
  ∃ r41 : Sl, e39 = .returned (.slice r41.a r41.len r41.cap) ∧
  (btS w40 r41.a r41.len fun x42 =>
  Calls Try.prog 37 ⟨[.pointer t10]⟩ w40 fun e43 w44 =>
  ∃ r45 : Sl, e43 = .returned (.slice r45.a r45.len r45.cap) ∧
  btS w44 r45.a r45.len fun x46 =>
  br (!(ByteArray.toList x42 == ByteArray.toList x46)) (
  Q (.bool false) w44) (
  lt (IntKind.i64.wrap (d_0 + t2)) fun x47 =>
  Calls Try.prog 48 ⟨[.pointer t9]⟩ w44 fun e48 w49 =>
  ∃ r50 : Int, e48 = .returned (.int .i64 r50) ∧
  br ((r50 : Int) != x47) (
  Q (.bool false) w49) (
  Calls Try.prog 48 ⟨[.pointer t10]⟩ w49 fun e51 w52 =>
  ∃ r53 : Int, e51 = .returned (.int .i64 r53) ∧
  Calls Try.prog 48 ⟨[.pointer t9]⟩ w52 fun e54 w55 =>
  ∃ r56 : Int, e54 = .returned (.int .i64 r56) ∧
  br ((r53 : Int) != r56) (
  Q (.bool false) w55) (
  trovelaw2_BitsSplit.j6 d_0 i_1 t2 t3 t9 Q w55)))) ∧ (
  Calls Try.prog 37 ⟨[.pointer t10]⟩ w40 fun e57 w58 =>
  ∃ r59 : Sl, e57 = .returned (.slice r59.a r59.len r59.cap) ∧
  (btS w58 r41.a r41.len fun x60 =>
  btS w58 r59.a r59.len fun x61 =>
  br (!(ByteArray.toList x60 == ByteArray.toList x61)) (
  Q (.bool false) w58) (
  lt (IntKind.i64.wrap (d_0 + t2)) fun x62 =>
  Calls Try.prog 48 ⟨[.pointer t9]⟩ w58 fun e63 w64 =>
  ∃ r65 : Int, e63 = .returned (.int .i64 r65) ∧
  br ((r65 : Int) != x62) (
  Q (.bool false) w64) (
  Calls Try.prog 48 ⟨[.pointer t10]⟩ w64 fun e66 w67 =>
  ∃ r68 : Int, e66 = .returned (.int .i64 r68) ∧
  Calls Try.prog 48 ⟨[.pointer t9]⟩ w67 fun e69 w70 =>
  ∃ r71 : Int, e69 = .returned (.int .i64 r71) ∧
  br ((r68 : Int) != r71) (
  Q (.bool false) w70) (
  trovelaw2_BitsSplit.j6 d_0 i_1 t2 t3 t9 Q w70)))) ∧ (
  btS w58 r59.a r59.len fun x72 =>
  btS w58 r41.a r41.len fun x73 =>
  br (!(ByteArray.toList x73 == ByteArray.toList x72)) (
  Q (.bool false) w58) (
  lt (IntKind.i64.wrap (d_0 + t2)) fun x74 =>
  Calls Try.prog 48 ⟨[.pointer t9]⟩ w58 fun e75 w76 =>
  ∃ r77 : Int, e75 = .returned (.int .i64 r77) ∧
  br ((r77 : Int) != x74) (
  Q (.bool false) w76) (
  Calls Try.prog 48 ⟨[.pointer t10]⟩ w76 fun e78 w79 =>
  ∃ r80 : Int, e78 = .returned (.int .i64 r80) ∧
  Calls Try.prog 48 ⟨[.pointer t9]⟩ w79 fun e81 w82 =>
  ∃ r83 : Int, e81 = .returned (.int .i64 r83) ∧
  br ((r80 : Int) != r83) (
  Q (.bool false) w82) (
  trovelaw2_BitsSplit.j6 d_0 i_1 t2 t3 t9 Q w82)))))

def trovelaw2_BitsSplit.j4 (d_0 : Int) (i_1 : Int) (t2 : Int) (t3 : Int) (t9 : (Option Addr)) (t10 : (Option Addr)) (Q : Value → World → Prop) (w : World) : Prop :=
  Calls Try.prog 34 ⟨[.pointer t9, .int .i64 i_1, .int .i64 t2]⟩ w fun e84 w85 =>
  e84 = .returned (.tuple ⟨[]⟩) ∧
  Calls Try.prog 34 ⟨[.pointer t10, .int .i64 i_1, .int .i64 t3]⟩ w85 fun e86 w87 =>
  e86 = .returned (.tuple ⟨[]⟩) ∧
  trovelaw2_BitsSplit.j5 d_0 i_1 t2 t3 t9 t10 Q w87

def trovelaw2_BitsSplit.j3 (d_0 : Int) (i_1 : Int) (t2 : Int) (t3 : Int) (t9 : (Option Addr)) (t10 : (Option Addr)) (Q : Value → World → Prop) (w : World) : Prop :=
  Calls Try.prog 34 ⟨[.pointer t9, .int .i64 (-1), .int .i64 d_0]⟩ w fun e88 w89 =>
  e88 = .returned (.tuple ⟨[]⟩) ∧
  Calls Try.prog 34 ⟨[.pointer t10, .int .i64 (-1), .int .i64 d_0]⟩ w89 fun e90 w91 =>
  e90 = .returned (.tuple ⟨[]⟩) ∧
  trovelaw2_BitsSplit.j4 d_0 i_1 t2 t3 t9 t10 Q w91

def trovelaw2_BitsSplit.j2 (d_0 : Int) (i_1 : Int) (t2 : Int) (t3 : Int) (Q : Value → World → Prop) (w : World) : Prop :=
  Calls Try.prog 33 ⟨[]⟩ w fun e92 w93 =>
  ∃ r94 : (Option Addr), e92 = .returned (.pointer r94) ∧
  Calls Try.prog 33 ⟨[]⟩ w93 fun e95 w96 =>
  ∃ r97 : (Option Addr), e95 = .returned (.pointer r97) ∧
  trovelaw2_BitsSplit.j3 d_0 i_1 t2 t3 r94 r97 Q w96

def trovelaw2_BitsSplit.j1 (d_0 : Int) (i_1 : Int) (t2 : Int) (t3 : Int) (Q : Value → World → Prop) (w : World) : Prop :=
  Calls Try.prog 32 ⟨[]⟩ w fun e98 w99 =>
  ∃ r100 : Bool, e98 = .returned (.bool r100) ∧
  br (!r100) (
  Q (.bool false) w99) (
  br (decide ((d_0 : Int) < 0)) (
  Q (.bool true) w99) (
  br (decide ((d_0 : Int) > 24)) (
  Q (.bool true) w99) (
  br (decide ((t2 : Int) < 0)) (
  Q (.bool true) w99) (
  br (decide ((t2 : Int) > 24)) (
  Q (.bool true) w99) (
  br (decide ((t3 : Int) < 0)) (
  Q (.bool true) w99) (
  br (decide ((t3 : Int) > t2)) (
  Q (.bool true) w99) (
  trovelaw2_BitsSplit.j2 d_0 i_1 t2 t3 Q w99)))))))

def trovelaw2_BitsSplit (d_0 : Int) (i_1 : Int) (t2 : Int) (t3 : Int) (Q : Value → World → Prop) (w : World) : Prop :=
  trovelaw2_BitsSplit.j1 d_0 i_1 t2 t3 Q w

theorem trovelaw2_BitsSplit.ok (d_0 : Int) (i_1 : Int) (t2 : Int) (t3 : Int) (Q : Value → World → Prop) (w : World) (h : trovelaw2_BitsSplit d_0 i_1 t2 t3 Q w) : Calls Try.prog 6 ⟨[.int .i64 d_0, .int .i64 i_1, .int .i64 t2, .int .i64 t3]⟩ w (Ret Q) := by
  refine calls_of_wpc [.tmp 8] Try.func6 rfl rfl rfl rfl ?_
  refine wpc_seq (fun ρ w => asI .i64 (ρ 0) fun d_0 => asI .i64 (ρ 1) fun i_1 => asI .i64 (ρ 2) fun t2 => asI .i64 (ρ 3) fun t3 => trovelaw2_BitsSplit.j1 d_0 i_1 t2 t3 Q w) ?_ ?_
  · skip
    exact pt_sound hmix _ (Eq.mp (by kernel_rfl) h)
  · intro ρ w h
    obtain ⟨d_0, e0, h⟩ := asI_el h
    obtain ⟨i_1, e1, h⟩ := asI_el h
    obtain ⟨t2, e2, h⟩ := asI_el h
    obtain ⟨t3, e3, h⟩ := asI_el h
    refine reroot e0 (reroot (upd_other e1 rfl) (reroot (upd_other (upd_other e2 rfl) rfl) (reroot (upd_other (upd_other (upd_other e3 rfl) rfl) rfl) ?_)))
    refine wpc_pre2 hmix (fun ρ w => asI .i64 (ρ 0) fun d_0 => asI .i64 (ρ 1) fun i_1 => asI .i64 (ρ 2) fun t2 => asI .i64 (ρ 3) fun t3 => trovelaw2_BitsSplit.j2 d_0 i_1 t2 t3 Q w) (Eq.mp (by kernel_rfl) h) ?_
    intro ρ w h
    obtain ⟨d_0, e0, h⟩ := asI_el h
    obtain ⟨i_1, e1, h⟩ := asI_el h
    obtain ⟨t2, e2, h⟩ := asI_el h
    obtain ⟨t3, e3, h⟩ := asI_el h
    refine reroot e0 (reroot (upd_other e1 rfl) (reroot (upd_other (upd_other e2 rfl) rfl) (reroot (upd_other (upd_other (upd_other e3 rfl) rfl) rfl) ?_)))
    refine wpc_pre2 hmix (fun ρ w => asI .i64 (ρ 0) fun d_0 => asI .i64 (ρ 1) fun i_1 => asI .i64 (ρ 2) fun t2 => asI .i64 (ρ 3) fun t3 => asP (ρ 9) fun t9 => asP (ρ 10) fun t10 => trovelaw2_BitsSplit.j3 d_0 i_1 t2 t3 t9 t10 Q w) (Eq.mp (by kernel_rfl) h) ?_
    intro ρ w h
    obtain ⟨d_0, e0, h⟩ := asI_el h
    obtain ⟨i_1, e1, h⟩ := asI_el h
    obtain ⟨t2, e2, h⟩ := asI_el h
    obtain ⟨t3, e3, h⟩ := asI_el h
    obtain ⟨t9, e9, h⟩ := asP_el h
    obtain ⟨t10, e10, h⟩ := asP_el h
    refine reroot e0 (reroot (upd_other e1 rfl) (reroot (upd_other (upd_other e2 rfl) rfl) (reroot (upd_other (upd_other (upd_other e3 rfl) rfl) rfl) (reroot (upd_other (upd_other (upd_other (upd_other e9 rfl) rfl) rfl) rfl) (reroot (upd_other (upd_other (upd_other (upd_other (upd_other e10 rfl) rfl) rfl) rfl) rfl) ?_)))))
    refine wpc_pre2 hmix (fun ρ w => asI .i64 (ρ 0) fun d_0 => asI .i64 (ρ 1) fun i_1 => asI .i64 (ρ 2) fun t2 => asI .i64 (ρ 3) fun t3 => asP (ρ 9) fun t9 => asP (ρ 10) fun t10 => trovelaw2_BitsSplit.j4 d_0 i_1 t2 t3 t9 t10 Q w) (Eq.mp (by kernel_rfl) h) ?_
    intro ρ w h
    obtain ⟨d_0, e0, h⟩ := asI_el h
    obtain ⟨i_1, e1, h⟩ := asI_el h
    obtain ⟨t2, e2, h⟩ := asI_el h
    obtain ⟨t3, e3, h⟩ := asI_el h
    obtain ⟨t9, e9, h⟩ := asP_el h
    obtain ⟨t10, e10, h⟩ := asP_el h
    refine reroot e0 (reroot (upd_other e1 rfl) (reroot (upd_other (upd_other e2 rfl) rfl) (reroot (upd_other (upd_other (upd_other e3 rfl) rfl) rfl) (reroot (upd_other (upd_other (upd_other (upd_other e9 rfl) rfl) rfl) rfl) (reroot (upd_other (upd_other (upd_other (upd_other (upd_other e10 rfl) rfl) rfl) rfl) rfl) ?_)))))
    refine wpc_pre2 hmix (fun ρ w => asI .i64 (ρ 0) fun d_0 => asI .i64 (ρ 1) fun i_1 => asI .i64 (ρ 2) fun t2 => asI .i64 (ρ 3) fun t3 => asP (ρ 9) fun t9 => asP (ρ 10) fun t10 => trovelaw2_BitsSplit.j5 d_0 i_1 t2 t3 t9 t10 Q w) (Eq.mp (by kernel_rfl) h) ?_
    intro ρ w h
    obtain ⟨d_0, e0, h⟩ := asI_el h
    obtain ⟨i_1, e1, h⟩ := asI_el h
    obtain ⟨t2, e2, h⟩ := asI_el h
    obtain ⟨t3, e3, h⟩ := asI_el h
    obtain ⟨t9, e9, h⟩ := asP_el h
    obtain ⟨t10, e10, h⟩ := asP_el h
    refine reroot e0 (reroot (upd_other e1 rfl) (reroot (upd_other (upd_other e2 rfl) rfl) (reroot (upd_other (upd_other (upd_other e3 rfl) rfl) rfl) (reroot (upd_other (upd_other (upd_other (upd_other e9 rfl) rfl) rfl) rfl) (reroot (upd_other (upd_other (upd_other (upd_other (upd_other e10 rfl) rfl) rfl) rfl) rfl) ?_)))))
    refine wpc_pre2 hmix (fun ρ w => asI .i64 (ρ 0) fun d_0 => asI .i64 (ρ 1) fun i_1 => asI .i64 (ρ 2) fun t2 => asI .i64 (ρ 3) fun t3 => asP (ρ 9) fun t9 => trovelaw2_BitsSplit.j6 d_0 i_1 t2 t3 t9 Q w) (Eq.mp (by kernel_rfl) h) ?_
    intro ρ w h
    obtain ⟨d_0, e0, h⟩ := asI_el h
    obtain ⟨i_1, e1, h⟩ := asI_el h
    obtain ⟨t2, e2, h⟩ := asI_el h
    obtain ⟨t3, e3, h⟩ := asI_el h
    obtain ⟨t9, e9, h⟩ := asP_el h
    refine reroot e0 (reroot (upd_other e1 rfl) (reroot (upd_other (upd_other e2 rfl) rfl) (reroot (upd_other (upd_other (upd_other e3 rfl) rfl) rfl) (reroot (upd_other (upd_other (upd_other (upd_other e9 rfl) rfl) rfl) rfl) ?_))))
    exact pt_sound hmix _ (Eq.mp (by kernel_rfl) h)

end Go.Proofs.Ytkajimndclhgaaa
