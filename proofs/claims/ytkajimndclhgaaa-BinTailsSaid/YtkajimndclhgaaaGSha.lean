/- PRINTED BY gen.py (own work): what calls come to, and the proofs of it. -/
import Derived.Test.YtkajimndclhgaaaVcJ
import Derived.Test.YtkajimndclhgaaaProg
namespace Go.Proofs.Ytkajimndclhgaaa
open Go Go.Proofs
set_option linter.unusedVariables false
set_option maxRecDepth 100000

/-! trove/sha.left -/
def sha_left (x_0 : Int) (n_1 : Int) (Q : Value → World → Prop) (w : World) : Prop :=
  lt (World.drew w) fun w1 =>
  (0 : Int) ≤ n_1 ∧
  lt (shlV .u32 x_0 n_1) fun x2 =>
  lt (IntKind.i64.wrap (32 - n_1)) fun x3 =>
  (0 : Int) ≤ x3 ∧
  lt (shrV .u32 x_0 x3) fun x4 =>
  lt (orV .u32 x2 x4) fun x5 =>
  Q (.int .u32 x5) w1

theorem sha_left.ok (x_0 : Int) (n_1 : Int) (Q : Value → World → Prop) (w : World) (h : sha_left x_0 n_1 Q w) : Calls Try.prog 154 ⟨[.int .u32 x_0, .int .i64 n_1]⟩ w (Ret Q) := by
  refine calls_of_wpc [.tmp 4] Try.func154 rfl rfl rfl rfl ?_
  exact pt_sound hmix _ (Eq.mp (by kernel_rfl) h)

/-! trove/sha.mix -/
def sha_mix (t_0 : Int) (b_1 : Int) (c_2 : Int) (d_3 : Int) (Q : Value → World → Prop) (w : World) : Prop :=
  (20 : Int) ≠ 0 ∧
  lt (IntKind.i64.wrap (Int.tdiv t_0 20)) fun x1 =>
  br ((x1 : Int) == 0) (
  lt (andV .u32 b_1 c_2) fun x2 =>
  lt (xorV .u32 (if IntKind.signed .u32 then -1 else IntKind.max .u32) b_1) fun x3 =>
  lt (andV .u32 x3 d_3) fun x4 =>
  lt (orV .u32 x2 x4) fun x5 =>
  Q (.tuple ⟨[.int .u32 x5, .int .u32 1518500249]⟩) w) (
  br ((x1 : Int) == 1) (
  lt (xorV .u32 b_1 c_2) fun x6 =>
  lt (xorV .u32 x6 d_3) fun x7 =>
  Q (.tuple ⟨[.int .u32 x7, .int .u32 1859775393]⟩) w) (
  br ((x1 : Int) == 2) (
  lt (andV .u32 b_1 c_2) fun x8 =>
  lt (andV .u32 b_1 d_3) fun x9 =>
  lt (orV .u32 x8 x9) fun x10 =>
  lt (andV .u32 c_2 d_3) fun x11 =>
  lt (orV .u32 x10 x11) fun x12 =>
  Q (.tuple ⟨[.int .u32 x12, .int .u32 2400959708]⟩) w) (
  lt (xorV .u32 b_1 c_2) fun x13 =>
  lt (xorV .u32 x13 d_3) fun x14 =>
  Q (.tuple ⟨[.int .u32 x14, .int .u32 3395469782]⟩) w)))

theorem sha_mix.ok (t_0 : Int) (b_1 : Int) (c_2 : Int) (d_3 : Int) (Q : Value → World → Prop) (w : World) (h : sha_mix t_0 b_1 c_2 d_3 Q w) : Calls Try.prog 155 ⟨[.int .i64 t_0, .int .u32 b_1, .int .u32 c_2, .int .u32 d_3]⟩ w (Ret Q) := by
  refine calls_of_wpc [.tmp 8, .tmp 9] Try.func155 rfl rfl rfl rfl ?_
  exact pt_sound hmix _ (Eq.mp (by kernel_rfl) h)

/-! (*trove/sha.Hash).eat -/
def sha_Hash_eat.b1 (d_0 : (Option Addr)) (t121 : (Array Value)) (t122 : Int) (Q : Value → World → Prop) (nx1 : (Option Addr) → (Array Value) → Int → World → Prop) (w : World) : Prop :=
  br (decide ((t122 : Int) < 5)) (
  ((0 : Int) ≤ t122 ∧ t122 < ((5 : Nat) : Int)) ∧
  ptI .u32 t121 (Int.toNat t122 * 1) fun x1 =>
  lt (World.drew w) fun w2 =>
  nz d_0 fun a3 =>
  ixA (Addr.add a3 0) 5 t122 1 fun a4 =>
  ldI .u32 w2 a4 fun x5 =>
  lt (IntKind.u32.wrap (x5 + x1)) fun x6 =>
  nz d_0 fun a7 =>
  ixA (Addr.add a7 0) 5 t122 1 fun a8 =>
  st w2 a8 (.int .u32 x6) fun w9 =>
  lt (IntKind.i64.wrap (t122 + 1)) fun x10 =>
  nx1 d_0 t121 x10 w9) (
  Q (.tuple ⟨[]⟩) w)

def sha_Hash_eat.l1 (d_0 : (Option Addr)) (t121 : (Array Value)) (t122 : Int) (Q : Value → World → Prop) (w : World) : Prop :=
  ∃ (I : Int → World → Prop) (μ : Int → World → Nat), I t122 w ∧ ∀ t122 : Int, ∀ w : World, I t122 w → sha_Hash_eat.b1 d_0 t121 t122 Q (fun d_0' t121' t122' w' => (d_0' = d_0 ∧ t121' = t121) ∧ I t122' w' ∧ μ t122' w' < μ t122 w) w

def sha_Hash_eat.j6 (d_0 : (Option Addr)) (t121 : (Array Value)) (t122 : Int) (Q : Value → World → Prop) (w : World) : Prop :=
  sha_Hash_eat.l1 d_0 t121 t122 Q w

def sha_Hash_eat.j5 (d_0 : (Option Addr)) (t8 : Int) (t9 : Int) (t10 : Int) (t11 : Int) (t12 : Int) (Q : Value → World → Prop) (w : World) : Prop :=
  sha_Hash_eat.j6 d_0 ⟨[.int .u32 t8, .int .u32 t9, .int .u32 t10, .int .u32 t11, .int .u32 t12]⟩ 0 Q w

def sha_Hash_eat.b2 (d_0 : (Option Addr)) (t87 : (Array Value)) (t8 : Int) (t9 : Int) (t10 : Int) (t11 : Int) (t12 : Int) (t88 : Int) (Q : Value → World → Prop) (nx2 : (Option Addr) → (Array Value) → Int → Int → Int → Int → Int → Int → World → Prop) (w : World) : Prop :=
  br (decide ((t88 : Int) < 80)) (
  ((0 : Int) ≤ t88 ∧ t88 < ((80 : Nat) : Int)) ∧
  ptI .u32 t87 (Int.toNat t88 * 1) fun x11 =>
  Calls Try.prog 155 ⟨[.int .i64 t88, .int .u32 t9, .int .u32 t10, .int .u32 t11]⟩ w fun e12 w13 =>
  ∃ r14 : Int, ∃ r15 : Int, e12 = .returned (.tuple ⟨[.int .u32 r14, .int .u32 r15]⟩) ∧
  Calls Try.prog 154 ⟨[.int .u32 t8, .int .i64 5]⟩ w13 fun e16 w17 =>
  ∃ r18 : Int, e16 = .returned (.int .u32 r18) ∧
  lt (IntKind.u32.wrap (r18 + r14)) fun x19 =>
  lt (IntKind.u32.wrap (x19 + t12)) fun x20 =>
  lt (IntKind.u32.wrap (x20 + r15)) fun x21 =>
  lt (IntKind.u32.wrap (x21 + x11)) fun x22 =>
  Calls Try.prog 154 ⟨[.int .u32 t9, .int .i64 30]⟩ w17 fun e23 w24 =>
  ∃ r25 : Int, e23 = .returned (.int .u32 r25) ∧
  lt (IntKind.i64.wrap (t88 + 1)) fun x26 =>
  nx2 d_0 t87 x22 t8 r25 t10 t11 x26 w24) (
  sha_Hash_eat.j5 d_0 t8 t9 t10 t11 t12 Q w)

def sha_Hash_eat.l2 (d_0 : (Option Addr)) (t87 : (Array Value)) (t8 : Int) (t9 : Int) (t10 : Int) (t11 : Int) (t12 : Int) (t88 : Int) (Q : Value → World → Prop) (w : World) : Prop :=
  ∃ (I : Int → Int → Int → Int → Int → Int → World → Prop) (μ : Int → Int → Int → Int → Int → Int → World → Nat), I t8 t9 t10 t11 t12 t88 w ∧ ∀ t8 : Int, ∀ t9 : Int, ∀ t10 : Int, ∀ t11 : Int, ∀ t12 : Int, ∀ t88 : Int, ∀ w : World, I t8 t9 t10 t11 t12 t88 w → sha_Hash_eat.b2 d_0 t87 t8 t9 t10 t11 t12 t88 Q (fun d_0' t87' t8' t9' t10' t11' t12' t88' w' => (d_0' = d_0 ∧ t87' = t87) ∧ I t8' t9' t10' t11' t12' t88' w' ∧ μ t8' t9' t10' t11' t12' t88' w' < μ t8 t9 t10 t11 t12 t88 w) w

def sha_Hash_eat.j7 (d_0 : (Option Addr)) (t8 : Int) (t9 : Int) (t10 : Int) (t11 : Int) (t12 : Int) (t87 : (Array Value)) (t88 : Int) (Q : Value → World → Prop) (w : World) : Prop :=
  sha_Hash_eat.l2 d_0 t87 t8 t9 t10 t11 t12 t88 Q w

def sha_Hash_eat.j4 (d_0 : (Option Addr)) (t4 : Addr) (t8 : Int) (t9 : Int) (t10 : Int) (t11 : Int) (t12 : Int) (Q : Value → World → Prop) (w : World) : Prop :=
  ldA w t4 80 fun c27 =>
  sha_Hash_eat.j7 d_0 t8 t9 t10 t11 t12 c27 0 Q w

def sha_Hash_eat.j3 (d_0 : (Option Addr)) (t4 : Addr) (Q : Value → World → Prop) (w : World) : Prop :=
  lt (World.drew w) fun w28 =>
  nz d_0 fun a29 =>
  ixA (Addr.add a29 0) 5 0 1 fun a30 =>
  ldI .u32 w28 a30 fun x31 =>
  nz d_0 fun a32 =>
  ixA (Addr.add a32 0) 5 1 1 fun a33 =>
  ldI .u32 w28 a33 fun x34 =>
  nz d_0 fun a35 =>
  ixA (Addr.add a35 0) 5 2 1 fun a36 =>
  ldI .u32 w28 a36 fun x37 =>
  nz d_0 fun a38 =>
  ixA (Addr.add a38 0) 5 3 1 fun a39 =>
  ldI .u32 w28 a39 fun x40 =>
  nz d_0 fun a41 =>
  ixA (Addr.add a41 0) 5 4 1 fun a42 =>
  ldI .u32 w28 a42 fun x43 =>
  sha_Hash_eat.j4 d_0 t4 x31 x34 x37 x40 x43 Q w28

def sha_Hash_eat.b3 (d_0 : (Option Addr)) (t4 : Addr) (t7 : Int) (Q : Value → World → Prop) (nx3 : (Option Addr) → Addr → Int → World → Prop) (w : World) : Prop :=
  br (decide ((t7 : Int) < 80)) (
  lt (World.drew w) fun w44 =>
  lt (IntKind.i64.wrap (t7 - 3)) fun x45 =>
  ixA t4 80 x45 1 fun a46 =>
  ldI .u32 w44 a46 fun x47 =>
  lt (IntKind.i64.wrap (t7 - 8)) fun x48 =>
  ixA t4 80 x48 1 fun a49 =>
  ldI .u32 w44 a49 fun x50 =>
  lt (xorV .u32 x47 x50) fun x51 =>
  lt (IntKind.i64.wrap (t7 - 14)) fun x52 =>
  ixA t4 80 x52 1 fun a53 =>
  ldI .u32 w44 a53 fun x54 =>
  lt (xorV .u32 x51 x54) fun x55 =>
  lt (IntKind.i64.wrap (t7 - 16)) fun x56 =>
  ixA t4 80 x56 1 fun a57 =>
  ldI .u32 w44 a57 fun x58 =>
  lt (xorV .u32 x55 x58) fun x59 =>
  Calls Try.prog 154 ⟨[.int .u32 x59, .int .i64 1]⟩ w44 fun e60 w61 =>
  ∃ r62 : Int, e60 = .returned (.int .u32 r62) ∧
  ixA t4 80 t7 1 fun a63 =>
  st w61 a63 (.int .u32 r62) fun w64 =>
  lt (IntKind.i64.wrap (t7 + 1)) fun x65 =>
  nx3 d_0 t4 x65 w64) (
  sha_Hash_eat.j3 d_0 t4 Q w)

def sha_Hash_eat.l3 (d_0 : (Option Addr)) (t4 : Addr) (t7 : Int) (Q : Value → World → Prop) (w : World) : Prop :=
  ∃ (I : Int → World → Prop) (μ : Int → World → Nat), I t7 w ∧ ∀ t7 : Int, ∀ w : World, I t7 w → sha_Hash_eat.b3 d_0 t4 t7 Q (fun d_0' t4' t7' w' => (d_0' = d_0 ∧ t4' = t4) ∧ I t7' w' ∧ μ t7' w' < μ t7 w) w

def sha_Hash_eat.j8 (d_0 : (Option Addr)) (t4 : Addr) (t7 : Int) (Q : Value → World → Prop) (w : World) : Prop :=
  sha_Hash_eat.l3 d_0 t4 t7 Q w

def sha_Hash_eat.j2 (d_0 : (Option Addr)) (t4 : Addr) (Q : Value → World → Prop) (w : World) : Prop :=
  sha_Hash_eat.j8 d_0 t4 16 Q w

def sha_Hash_eat.b4 (d_0 : (Option Addr)) (t4 : Addr) (t19 : (Array Value)) (t20 : Int) (Q : Value → World → Prop) (nx4 : (Option Addr) → Addr → (Array Value) → Int → World → Prop) (w : World) : Prop :=
  br (decide ((t20 : Int) < 64)) (
  ((0 : Int) ≤ t20 ∧ t20 < ((64 : Nat) : Int)) ∧
  ptI .u8 t19 (Int.toNat t20 * 1) fun x66 =>
  (4 : Int) ≠ 0 ∧
  lt (IntKind.i64.wrap (Int.tdiv t20 4)) fun x67 =>
  (4 : Int) ≠ 0 ∧
  lt (IntKind.i64.wrap (Int.tdiv t20 4)) fun x68 =>
  ixA t4 80 x68 1 fun a69 =>
  ldI .u32 w a69 fun x70 =>
  (0 : Int) ≤ 8 ∧
  lt (shlV .u32 x70 8) fun x71 =>
  lt (IntKind.u32.wrap x66) fun x72 =>
  lt (orV .u32 x71 x72) fun x73 =>
  ixA t4 80 x67 1 fun a74 =>
  st w a74 (.int .u32 x73) fun w75 =>
  lt (IntKind.i64.wrap (t20 + 1)) fun x76 =>
  nx4 d_0 t4 t19 x76 w75) (
  sha_Hash_eat.j2 d_0 t4 Q w)

def sha_Hash_eat.l4 (d_0 : (Option Addr)) (t4 : Addr) (t19 : (Array Value)) (t20 : Int) (Q : Value → World → Prop) (w : World) : Prop :=
  ∃ (I : Int → World → Prop) (μ : Int → World → Nat), I t20 w ∧ ∀ t20 : Int, ∀ w : World, I t20 w → sha_Hash_eat.b4 d_0 t4 t19 t20 Q (fun d_0' t4' t19' t20' w' => (d_0' = d_0 ∧ t4' = t4 ∧ t19' = t19) ∧ I t20' w' ∧ μ t20' w' < μ t20 w) w

def sha_Hash_eat.j9 (d_0 : (Option Addr)) (t4 : Addr) (t19 : (Array Value)) (t20 : Int) (Q : Value → World → Prop) (w : World) : Prop :=
  sha_Hash_eat.l4 d_0 t4 t19 t20 Q w

def sha_Hash_eat.j1 (d_0 : (Option Addr)) (t3 : Addr) (t4 : Addr) (Q : Value → World → Prop) (w : World) : Prop :=
  ldA w t3 64 fun c77 =>
  sha_Hash_eat.j9 d_0 t4 c77 0 Q w

def sha_Hash_eat (d_0 : (Option Addr)) (i_1 : (Array Value)) (Q : Value → World → Prop) (w : World) : Prop :=
  lt (⟨World.heapSize w, 0, none⟩ : Addr) fun a78 =>
  lt (World.alloc w (.cells i_1 154)) fun w79 =>
  lt (⟨World.heapSize w79, 0, none⟩ : Addr) fun a80 =>
  lt (World.alloc w79 (.cells (zc Try.prog 190) 190)) fun w81 =>
  sha_Hash_eat.j1 d_0 a78 a80 Q w81

theorem sha_Hash_eat.ok (d_0 : (Option Addr)) (i_1 : (Array Value)) (Q : Value → World → Prop) (w : World) (h : sha_Hash_eat d_0 i_1 Q w) : Calls Try.prog 127 ⟨[.pointer d_0, .agg i_1]⟩ w (Ret Q) := by
  refine calls_of_wpc [] Try.func127 rfl rfl rfl rfl ?_
  refine wpc_pre2 hmix (fun ρ w => asP (ρ 0) fun d_0 => asA (ρ 3) fun t3 => asA (ρ 4) fun t4 => sha_Hash_eat.j1 d_0 t3 t4 Q w) (Eq.mp (by kernel_rfl) h) ?_
  intro ρ w h
  obtain ⟨d_0, e0, h⟩ := asP_el h
  obtain ⟨t3, e3, h⟩ := asA_el h
  obtain ⟨t4, e4, h⟩ := asA_el h
  refine reroot e0 (reroot (upd_other e3 rfl) (reroot (upd_other (upd_other e4 rfl) rfl) ?_))
  refine wpc_seq (fun ρ w => asP (ρ 0) fun d_0 => asA (ρ 4) fun t4 => sha_Hash_eat.j2 d_0 t4 Q w) ?_ ?_
  · skip
    refine wpc_seq (fun ρ w => asP (ρ 0) fun d_0 => asA (ρ 4) fun t4 => asG (ρ 19) fun t19 => asI .i64 (ρ 20) fun t20 => sha_Hash_eat.j9 d_0 t4 t19 t20 Q w) ?_ ?_
    · skip
      exact pt_sound hmix _ (Eq.mp (by kernel_rfl) h)
    · intro ρ w h
      obtain ⟨d_0, e0, h⟩ := asP_el h
      obtain ⟨t4, e4, h⟩ := asA_el h
      obtain ⟨t19, e19, h⟩ := asG_el h
      obtain ⟨t20, e20, h⟩ := asI_el h
      refine reroot e0 (reroot (upd_other e4 rfl) (reroot (upd_other (upd_other e19 rfl) rfl) (reroot (upd_other (upd_other (upd_other e20 rfl) rfl) rfl) ?_)))
      refine wpc_block ?_
      obtain ⟨I, μ, hI, hr⟩ := h
      refine wpc_loopS (α := Int) (fun s ρ => ρ 20 = .int .i64 s ∧ ρ 0 = .pointer d_0 ∧ ρ 4 = .pointer (some t4) ∧ ρ 19 = .agg t19) (fun s w => I s w) (fun s w => μ s w) t20 ⟨rfl, rfl, rfl, rfl⟩ hI ?_
      rintro t20 ρ w ⟨e20, e0, e4, e19⟩ hI
      have h := hr t20 w hI
      clear hr
      obtain ⟨nx4, hnx⟩ : ∃ nx : (Option Addr) → Addr → (Array Value) → Int → World → Prop, nx = (fun d_0' t4' t19' t20' w' => (d_0' = d_0 ∧ t4' = t4 ∧ t19' = t19) ∧ I t20' w' ∧ μ t20' w' < μ t20 w) := ⟨_, rfl⟩
      rw [← hnx] at h
      refine wpc_norm (M := fun ρ w => asP (ρ 0) fun d_0 => asA (ρ 4) fun t4 => asG (ρ 19) fun t19 => asI .i64 (ρ 20) fun t20 => nx4 d_0 t4 t19 t20 w) ?_ (fun ρ w h => ?_)
      · skip
        refine reroot e0 (reroot (upd_other e4 rfl) (reroot (upd_other (upd_other e19 rfl) rfl) (reroot (upd_other (upd_other (upd_other e20 rfl) rfl) rfl) ?_)))
        exact pt_sound hmix _ (Eq.mp (by kernel_rfl) h)
      · skip
        obtain ⟨d_0', e0', h⟩ := asP_el h
        obtain ⟨t4', e4', h⟩ := asA_el h
        obtain ⟨t19', e19', h⟩ := asG_el h
        obtain ⟨t20', e20', h⟩ := asI_el h
        rw [hnx] at h
        obtain ⟨hu, hI2, hμ⟩ := h
        obtain ⟨rfl, rfl, rfl⟩ := hu
        exact ⟨t20', ⟨e20', e0', e4', e19'⟩, hI2, hμ⟩
  · intro ρ w h
    obtain ⟨d_0, e0, h⟩ := asP_el h
    obtain ⟨t4, e4, h⟩ := asA_el h
    refine reroot e0 (reroot (upd_other e4 rfl) ?_)
    refine wpc_seq (fun ρ w => asP (ρ 0) fun d_0 => asA (ρ 4) fun t4 => sha_Hash_eat.j3 d_0 t4 Q w) ?_ ?_
    · skip
      refine wpc_seq (fun ρ w => asP (ρ 0) fun d_0 => asA (ρ 4) fun t4 => asI .i64 (ρ 7) fun t7 => sha_Hash_eat.j8 d_0 t4 t7 Q w) ?_ ?_
      · skip
        exact pt_sound hmix _ (Eq.mp (by kernel_rfl) h)
      · intro ρ w h
        obtain ⟨d_0, e0, h⟩ := asP_el h
        obtain ⟨t4, e4, h⟩ := asA_el h
        obtain ⟨t7, e7, h⟩ := asI_el h
        refine reroot e0 (reroot (upd_other e4 rfl) (reroot (upd_other (upd_other e7 rfl) rfl) ?_))
        refine wpc_block ?_
        obtain ⟨I, μ, hI, hr⟩ := h
        refine wpc_loopS (α := Int) (fun s ρ => ρ 7 = .int .i64 s ∧ ρ 0 = .pointer d_0 ∧ ρ 4 = .pointer (some t4)) (fun s w => I s w) (fun s w => μ s w) t7 ⟨rfl, rfl, rfl⟩ hI ?_
        rintro t7 ρ w ⟨e7, e0, e4⟩ hI
        have h := hr t7 w hI
        clear hr
        obtain ⟨nx3, hnx⟩ : ∃ nx : (Option Addr) → Addr → Int → World → Prop, nx = (fun d_0' t4' t7' w' => (d_0' = d_0 ∧ t4' = t4) ∧ I t7' w' ∧ μ t7' w' < μ t7 w) := ⟨_, rfl⟩
        rw [← hnx] at h
        refine wpc_norm (M := fun ρ w => asP (ρ 0) fun d_0 => asA (ρ 4) fun t4 => asI .i64 (ρ 7) fun t7 => nx3 d_0 t4 t7 w) ?_ (fun ρ w h => ?_)
        · skip
          refine reroot e0 (reroot (upd_other e4 rfl) (reroot (upd_other (upd_other e7 rfl) rfl) ?_))
          exact pt_sound hmix _ (Eq.mp (by kernel_rfl) h)
        · skip
          obtain ⟨d_0', e0', h⟩ := asP_el h
          obtain ⟨t4', e4', h⟩ := asA_el h
          obtain ⟨t7', e7', h⟩ := asI_el h
          rw [hnx] at h
          obtain ⟨hu, hI2, hμ⟩ := h
          obtain ⟨rfl, rfl⟩ := hu
          exact ⟨t7', ⟨e7', e0', e4'⟩, hI2, hμ⟩
    · intro ρ w h
      obtain ⟨d_0, e0, h⟩ := asP_el h
      obtain ⟨t4, e4, h⟩ := asA_el h
      refine reroot e0 (reroot (upd_other e4 rfl) ?_)
      refine wpc_seq (fun ρ w => asP (ρ 0) fun d_0 => asA (ρ 4) fun t4 => asI .u32 (ρ 8) fun t8 => asI .u32 (ρ 9) fun t9 => asI .u32 (ρ 10) fun t10 => asI .u32 (ρ 11) fun t11 => asI .u32 (ρ 12) fun t12 => sha_Hash_eat.j4 d_0 t4 t8 t9 t10 t11 t12 Q w) ?_ ?_
      · skip
        exact pt_sound hmix _ (Eq.mp (by kernel_rfl) h)
      · intro ρ w h
        obtain ⟨d_0, e0, h⟩ := asP_el h
        obtain ⟨t4, e4, h⟩ := asA_el h
        obtain ⟨t8, e8, h⟩ := asI_el h
        obtain ⟨t9, e9, h⟩ := asI_el h
        obtain ⟨t10, e10, h⟩ := asI_el h
        obtain ⟨t11, e11, h⟩ := asI_el h
        obtain ⟨t12, e12, h⟩ := asI_el h
        refine reroot e0 (reroot (upd_other e4 rfl) (reroot (upd_other (upd_other e8 rfl) rfl) (reroot (upd_other (upd_other (upd_other e9 rfl) rfl) rfl) (reroot (upd_other (upd_other (upd_other (upd_other e10 rfl) rfl) rfl) rfl) (reroot (upd_other (upd_other (upd_other (upd_other (upd_other e11 rfl) rfl) rfl) rfl) rfl) (reroot (upd_other (upd_other (upd_other (upd_other (upd_other (upd_other e12 rfl) rfl) rfl) rfl) rfl) rfl) ?_))))))
        refine wpc_seq (fun ρ w => asP (ρ 0) fun d_0 => asI .u32 (ρ 8) fun t8 => asI .u32 (ρ 9) fun t9 => asI .u32 (ρ 10) fun t10 => asI .u32 (ρ 11) fun t11 => asI .u32 (ρ 12) fun t12 => sha_Hash_eat.j5 d_0 t8 t9 t10 t11 t12 Q w) ?_ ?_
        · skip
          refine wpc_seq (fun ρ w => asP (ρ 0) fun d_0 => asI .u32 (ρ 8) fun t8 => asI .u32 (ρ 9) fun t9 => asI .u32 (ρ 10) fun t10 => asI .u32 (ρ 11) fun t11 => asI .u32 (ρ 12) fun t12 => asG (ρ 87) fun t87 => asI .i64 (ρ 88) fun t88 => sha_Hash_eat.j7 d_0 t8 t9 t10 t11 t12 t87 t88 Q w) ?_ ?_
          · skip
            exact pt_sound hmix _ (Eq.mp (by kernel_rfl) h)
          · intro ρ w h
            obtain ⟨d_0, e0, h⟩ := asP_el h
            obtain ⟨t8, e8, h⟩ := asI_el h
            obtain ⟨t9, e9, h⟩ := asI_el h
            obtain ⟨t10, e10, h⟩ := asI_el h
            obtain ⟨t11, e11, h⟩ := asI_el h
            obtain ⟨t12, e12, h⟩ := asI_el h
            obtain ⟨t87, e87, h⟩ := asG_el h
            obtain ⟨t88, e88, h⟩ := asI_el h
            refine reroot e0 (reroot (upd_other e8 rfl) (reroot (upd_other (upd_other e9 rfl) rfl) (reroot (upd_other (upd_other (upd_other e10 rfl) rfl) rfl) (reroot (upd_other (upd_other (upd_other (upd_other e11 rfl) rfl) rfl) rfl) (reroot (upd_other (upd_other (upd_other (upd_other (upd_other e12 rfl) rfl) rfl) rfl) rfl) (reroot (upd_other (upd_other (upd_other (upd_other (upd_other (upd_other e87 rfl) rfl) rfl) rfl) rfl) rfl) (reroot (upd_other (upd_other (upd_other (upd_other (upd_other (upd_other (upd_other e88 rfl) rfl) rfl) rfl) rfl) rfl) rfl) ?_)))))))
            refine wpc_block ?_
            obtain ⟨I, μ, hI, hr⟩ := h
            refine wpc_loopS (α := Int × Int × Int × Int × Int × Int) (fun s ρ => ρ 8 = .int .u32 s.1 ∧ ρ 9 = .int .u32 s.2.1 ∧ ρ 10 = .int .u32 s.2.2.1 ∧ ρ 11 = .int .u32 s.2.2.2.1 ∧ ρ 12 = .int .u32 s.2.2.2.2.1 ∧ ρ 88 = .int .i64 s.2.2.2.2.2 ∧ ρ 0 = .pointer d_0 ∧ ρ 87 = .agg t87) (fun s w => I s.1 s.2.1 s.2.2.1 s.2.2.2.1 s.2.2.2.2.1 s.2.2.2.2.2 w) (fun s w => μ s.1 s.2.1 s.2.2.1 s.2.2.2.1 s.2.2.2.2.1 s.2.2.2.2.2 w) (t8, t9, t10, t11, t12, t88) ⟨rfl, rfl, rfl, rfl, rfl, rfl, rfl, rfl⟩ hI ?_
            rintro ⟨t8, t9, t10, t11, t12, t88⟩ ρ w ⟨e8, e9, e10, e11, e12, e88, e0, e87⟩ hI
            have h := hr t8 t9 t10 t11 t12 t88 w hI
            clear hr
            obtain ⟨nx2, hnx⟩ : ∃ nx : (Option Addr) → (Array Value) → Int → Int → Int → Int → Int → Int → World → Prop, nx = (fun d_0' t87' t8' t9' t10' t11' t12' t88' w' => (d_0' = d_0 ∧ t87' = t87) ∧ I t8' t9' t10' t11' t12' t88' w' ∧ μ t8' t9' t10' t11' t12' t88' w' < μ t8 t9 t10 t11 t12 t88 w) := ⟨_, rfl⟩
            rw [← hnx] at h
            refine wpc_norm (M := fun ρ w => asP (ρ 0) fun d_0 => asG (ρ 87) fun t87 => asI .u32 (ρ 8) fun t8 => asI .u32 (ρ 9) fun t9 => asI .u32 (ρ 10) fun t10 => asI .u32 (ρ 11) fun t11 => asI .u32 (ρ 12) fun t12 => asI .i64 (ρ 88) fun t88 => nx2 d_0 t87 t8 t9 t10 t11 t12 t88 w) ?_ (fun ρ w h => ?_)
            · skip
              refine reroot e0 (reroot (upd_other e8 rfl) (reroot (upd_other (upd_other e9 rfl) rfl) (reroot (upd_other (upd_other (upd_other e10 rfl) rfl) rfl) (reroot (upd_other (upd_other (upd_other (upd_other e11 rfl) rfl) rfl) rfl) (reroot (upd_other (upd_other (upd_other (upd_other (upd_other e12 rfl) rfl) rfl) rfl) rfl) (reroot (upd_other (upd_other (upd_other (upd_other (upd_other (upd_other e87 rfl) rfl) rfl) rfl) rfl) rfl) (reroot (upd_other (upd_other (upd_other (upd_other (upd_other (upd_other (upd_other e88 rfl) rfl) rfl) rfl) rfl) rfl) rfl) ?_)))))))
              exact pt_sound hmix _ (Eq.mp (by kernel_rfl) h)
            · skip
              obtain ⟨d_0', e0', h⟩ := asP_el h
              obtain ⟨t87', e87', h⟩ := asG_el h
              obtain ⟨t8', e8', h⟩ := asI_el h
              obtain ⟨t9', e9', h⟩ := asI_el h
              obtain ⟨t10', e10', h⟩ := asI_el h
              obtain ⟨t11', e11', h⟩ := asI_el h
              obtain ⟨t12', e12', h⟩ := asI_el h
              obtain ⟨t88', e88', h⟩ := asI_el h
              rw [hnx] at h
              obtain ⟨hu, hI2, hμ⟩ := h
              obtain ⟨rfl, rfl⟩ := hu
              exact ⟨(t8', t9', t10', t11', t12', t88'), ⟨e8', e9', e10', e11', e12', e88', e0', e87'⟩, hI2, hμ⟩
        · intro ρ w h
          obtain ⟨d_0, e0, h⟩ := asP_el h
          obtain ⟨t8, e8, h⟩ := asI_el h
          obtain ⟨t9, e9, h⟩ := asI_el h
          obtain ⟨t10, e10, h⟩ := asI_el h
          obtain ⟨t11, e11, h⟩ := asI_el h
          obtain ⟨t12, e12, h⟩ := asI_el h
          refine reroot e0 (reroot (upd_other e8 rfl) (reroot (upd_other (upd_other e9 rfl) rfl) (reroot (upd_other (upd_other (upd_other e10 rfl) rfl) rfl) (reroot (upd_other (upd_other (upd_other (upd_other e11 rfl) rfl) rfl) rfl) (reroot (upd_other (upd_other (upd_other (upd_other (upd_other e12 rfl) rfl) rfl) rfl) rfl) ?_)))))
          refine wpc_seq (fun ρ w => asP (ρ 0) fun d_0 => asG (ρ 121) fun t121 => asI .i64 (ρ 122) fun t122 => sha_Hash_eat.j6 d_0 t121 t122 Q w) ?_ ?_
          · skip
            exact pt_sound hmix _ (Eq.mp (by kernel_rfl) h)
          · intro ρ w h
            obtain ⟨d_0, e0, h⟩ := asP_el h
            obtain ⟨t121, e121, h⟩ := asG_el h
            obtain ⟨t122, e122, h⟩ := asI_el h
            refine reroot e0 (reroot (upd_other e121 rfl) (reroot (upd_other (upd_other e122 rfl) rfl) ?_))
            refine wpc_block ?_
            obtain ⟨I, μ, hI, hr⟩ := h
            refine wpc_loopS (α := Int) (fun s ρ => ρ 122 = .int .i64 s ∧ ρ 0 = .pointer d_0 ∧ ρ 121 = .agg t121) (fun s w => I s w) (fun s w => μ s w) t122 ⟨rfl, rfl, rfl⟩ hI ?_
            rintro t122 ρ w ⟨e122, e0, e121⟩ hI
            have h := hr t122 w hI
            clear hr
            obtain ⟨nx1, hnx⟩ : ∃ nx : (Option Addr) → (Array Value) → Int → World → Prop, nx = (fun d_0' t121' t122' w' => (d_0' = d_0 ∧ t121' = t121) ∧ I t122' w' ∧ μ t122' w' < μ t122 w) := ⟨_, rfl⟩
            rw [← hnx] at h
            refine wpc_norm (M := fun ρ w => asP (ρ 0) fun d_0 => asG (ρ 121) fun t121 => asI .i64 (ρ 122) fun t122 => nx1 d_0 t121 t122 w) ?_ (fun ρ w h => ?_)
            · skip
              refine reroot e0 (reroot (upd_other e121 rfl) (reroot (upd_other (upd_other e122 rfl) rfl) ?_))
              exact pt_sound hmix _ (Eq.mp (by kernel_rfl) h)
            · skip
              obtain ⟨d_0', e0', h⟩ := asP_el h
              obtain ⟨t121', e121', h⟩ := asG_el h
              obtain ⟨t122', e122', h⟩ := asI_el h
              rw [hnx] at h
              obtain ⟨hu, hI2, hμ⟩ := h
              obtain ⟨rfl, rfl⟩ := hu
              exact ⟨t122', ⟨e122', e0', e121'⟩, hI2, hμ⟩

/-! (*trove/sha.Hash).Write -/
def sha_Hash_Write.b1 (h_0 : (Option Addr)) (t6 : Sl) (t7 : Int) (t8 : Int) (Q : Value → World → Prop) (nx1 : (Option Addr) → Sl → Int → Int → World → Prop) (w : World) : Prop :=
  br (decide ((t8 : Int) < t7)) (
  ixS t6.a t6.len t8 1 fun a1 =>
  ldI .u8 w a1 fun x2 =>
  lt (World.drew w) fun w3 =>
  nz h_0 fun a4 =>
  ldI .i64 w3 (Addr.add a4 69) fun x5 =>
  (64 : Int) ≠ 0 ∧
  lt (Int.tmod x5 64) fun x6 =>
  nz h_0 fun a7 =>
  ixA (Addr.add a7 5) 64 x6 1 fun a8 =>
  st w3 a8 (.int .u8 x2) fun w9 =>
  nz h_0 fun a10 =>
  ldI .i64 w9 (Addr.add a10 69) fun x11 =>
  lt (IntKind.i64.wrap (x11 + 1)) fun x12 =>
  nz h_0 fun a13 =>
  st w9 (Addr.add a13 69) (.int .i64 x12) fun w14 =>
  nz h_0 fun a15 =>
  ldI .i64 w14 (Addr.add a15 69) fun x16 =>
  (64 : Int) ≠ 0 ∧
  lt (Int.tmod x16 64) fun x17 =>
  br ((x17 : Int) == 0) (
  nz h_0 fun a18 =>
  ldA w14 (Addr.add a18 5) 64 fun c19 =>
  Calls Try.prog 127 ⟨[.pointer h_0, .agg c19]⟩ w14 fun e20 w21 =>
  e20 = .returned (.tuple ⟨[]⟩) ∧
  lt (IntKind.i64.wrap (t8 + 1)) fun x22 =>
  nx1 h_0 t6 t7 x22 w21) (
  lt (IntKind.i64.wrap (t8 + 1)) fun x23 =>
  nx1 h_0 t6 t7 x23 w14)) (
  Q (.tuple ⟨[]⟩) w)

def sha_Hash_Write.l1 (h_0 : (Option Addr)) (t6 : Sl) (t7 : Int) (t8 : Int) (Q : Value → World → Prop) (w : World) : Prop :=
  ∃ (I : Int → World → Prop) (μ : Int → World → Nat), I t8 w ∧ ∀ t8 : Int, ∀ w : World, I t8 w → sha_Hash_Write.b1 h_0 t6 t7 t8 Q (fun h_0' t6' t7' t8' w' => (h_0' = h_0 ∧ t6' = t6 ∧ t7' = t7) ∧ I t8' w' ∧ μ t8' w' < μ t8 w) w

def sha_Hash_Write.j1 (h_0 : (Option Addr)) (t6 : Sl) (t7 : Int) (t8 : Int) (Q : Value → World → Prop) (w : World) : Prop :=
  sha_Hash_Write.l1 h_0 t6 t7 t8 Q w

def sha_Hash_Write (h_0 : (Option Addr)) (b_1 : Sl) (Q : Value → World → Prop) (w : World) : Prop :=
  sha_Hash_Write.j1 h_0 b_1 ((b_1.len : Nat) : Int) 0 Q w

theorem sha_Hash_Write.ok (h_0 : (Option Addr)) (b_1 : Sl) (Q : Value → World → Prop) (w : World) (h : sha_Hash_Write h_0 b_1 Q w) : Calls Try.prog 60 ⟨[.pointer h_0, .slice b_1.a b_1.len b_1.cap]⟩ w (Ret Q) := by
  refine calls_of_wpc [] Try.func60 rfl rfl rfl rfl ?_
  refine wpc_seq (fun ρ w => asP (ρ 0) fun h_0 => asL (ρ 6) fun t6 => asI .i64 (ρ 7) fun t7 => asI .i64 (ρ 8) fun t8 => sha_Hash_Write.j1 h_0 t6 t7 t8 Q w) ?_ ?_
  · skip
    exact pt_sound hmix _ (Eq.mp (by kernel_rfl) h)
  · intro ρ w h
    obtain ⟨h_0, e0, h⟩ := asP_el h
    obtain ⟨t6, e6, h⟩ := asL_el h
    obtain ⟨t7, e7, h⟩ := asI_el h
    obtain ⟨t8, e8, h⟩ := asI_el h
    refine reroot e0 (reroot (upd_other e6 rfl) (reroot (upd_other (upd_other e7 rfl) rfl) (reroot (upd_other (upd_other (upd_other e8 rfl) rfl) rfl) ?_)))
    refine wpc_block ?_
    obtain ⟨I, μ, hI, hr⟩ := h
    refine wpc_loopS (α := Int) (fun s ρ => ρ 8 = .int .i64 s ∧ ρ 0 = .pointer h_0 ∧ ρ 6 = .slice t6.a t6.len t6.cap ∧ ρ 7 = .int .i64 t7) (fun s w => I s w) (fun s w => μ s w) t8 ⟨rfl, rfl, rfl, rfl⟩ hI ?_
    rintro t8 ρ w ⟨e8, e0, e6, e7⟩ hI
    have h := hr t8 w hI
    clear hr
    obtain ⟨nx1, hnx⟩ : ∃ nx : (Option Addr) → Sl → Int → Int → World → Prop, nx = (fun h_0' t6' t7' t8' w' => (h_0' = h_0 ∧ t6' = t6 ∧ t7' = t7) ∧ I t8' w' ∧ μ t8' w' < μ t8 w) := ⟨_, rfl⟩
    rw [← hnx] at h
    refine wpc_norm (M := fun ρ w => asP (ρ 0) fun h_0 => asL (ρ 6) fun t6 => asI .i64 (ρ 7) fun t7 => asI .i64 (ρ 8) fun t8 => nx1 h_0 t6 t7 t8 w) ?_ (fun ρ w h => ?_)
    · skip
      refine reroot e0 (reroot (upd_other e6 rfl) (reroot (upd_other (upd_other e7 rfl) rfl) (reroot (upd_other (upd_other (upd_other e8 rfl) rfl) rfl) ?_)))
      exact pt_sound hmix _ (Eq.mp (by kernel_rfl) h)
    · skip
      obtain ⟨h_0', e0', h⟩ := asP_el h
      obtain ⟨t6', e6', h⟩ := asL_el h
      obtain ⟨t7', e7', h⟩ := asI_el h
      obtain ⟨t8', e8', h⟩ := asI_el h
      rw [hnx] at h
      obtain ⟨hu, hI2, hμ⟩ := h
      obtain ⟨rfl, rfl, rfl⟩ := hu
      exact ⟨t8', ⟨e8', e0', e6', e7'⟩, hI2, hμ⟩

/-! (*trove/sha.Hash).Len -/
def sha_Hash_Len (h_0 : (Option Addr)) (Q : Value → World → Prop) (w : World) : Prop :=
  nz h_0 fun a1 =>
  ldI .i64 w (Addr.add a1 69) fun x2 =>
  Q (.int .i64 x2) w

theorem sha_Hash_Len.ok (h_0 : (Option Addr)) (Q : Value → World → Prop) (w : World) (h : sha_Hash_Len h_0 Q w) : Calls Try.prog 61 ⟨[.pointer h_0]⟩ w (Ret Q) := by
  refine calls_of_wpc [.tmp 2] Try.func61 rfl rfl rfl rfl ?_
  exact pt_sound hmix _ (Eq.mp (by kernel_rfl) h)

/-! (*trove/sha.Hash).Twin -/
def sha_Hash_Twin (h_0 : (Option Addr)) (Q : Value → World → Prop) (w : World) : Prop :=
  nz h_0 fun a1 =>
  ldA w a1 70 fun c2 =>
  lt (⟨World.heapSize w, 0, none⟩ : Addr) fun a3 =>
  lt (World.alloc w (.cells (zc Try.prog 156) 156)) fun w4 =>
  (c2).size = 70 ∧
  stA w4 a3 c2 fun w5 =>
  Q (.pointer (some a3)) w5

theorem sha_Hash_Twin.ok (h_0 : (Option Addr)) (Q : Value → World → Prop) (w : World) (h : sha_Hash_Twin h_0 Q w) : Calls Try.prog 63 ⟨[.pointer h_0]⟩ w (Ret Q) := by
  refine calls_of_wpc [.tmp 2] Try.func63 rfl rfl rfl rfl ?_
  exact pt_sound hmix _ (Eq.mp (by kernel_rfl) h)

/-! (*trove/sha.Hash).Sum -/
def sha_Hash_Sum.j5 (t2 : Addr) (out_4 : Sl) (Q : Value → World → Prop) (w : World) : Prop :=
  20 ≤ out_4.len ∧
  nz out_4.a fun a1 =>
  ldA w a1 20 fun c2 =>
  (c2).size = 20 ∧
  stA w t2 c2 fun w3 =>
  ldA w3 t2 20 fun c4 =>
  Q (.agg c4) w3

def sha_Hash_Sum.b1 (t2 : Addr) (t32 : (Array Value)) (out_4 : Sl) (t33 : Int) (Q : Value → World → Prop) (nx1 : Addr → (Array Value) → Sl → Int → World → Prop) (w : World) : Prop :=
  br (decide ((t33 : Int) < 5)) (
  ((0 : Int) ≤ t33 ∧ t33 < ((5 : Nat) : Int)) ∧
  ptI .u32 t32 (Int.toNat t33 * 1) fun x5 =>
  lt (IntKind.i64.wrap x5) fun x6 =>
  Calls Try.prog 75 ⟨[.slice out_4.a out_4.len out_4.cap, .int .i64 x6]⟩ w fun e7 w8 =>
  ∃ r9 : Sl, e7 = .returned (.slice r9.a r9.len r9.cap) ∧
  lt (IntKind.i64.wrap (t33 + 1)) fun x10 =>
  nx1 t2 t32 r9 x10 w8) (
  sha_Hash_Sum.j5 t2 out_4 Q w)

def sha_Hash_Sum.l1 (t2 : Addr) (t32 : (Array Value)) (out_4 : Sl) (t33 : Int) (Q : Value → World → Prop) (w : World) : Prop :=
  ∃ (I : Sl → Int → World → Prop) (μ : Sl → Int → World → Nat), I out_4 t33 w ∧ ∀ out_4 : Sl, ∀ t33 : Int, ∀ w : World, I out_4 t33 w → sha_Hash_Sum.b1 t2 t32 out_4 t33 Q (fun t2' t32' out_4' t33' w' => (t2' = t2 ∧ t32' = t32) ∧ I out_4' t33' w' ∧ μ out_4' t33' w' < μ out_4 t33 w) w

def sha_Hash_Sum.j6 (t2 : Addr) (out_4 : Sl) (t32 : (Array Value)) (t33 : Int) (Q : Value → World → Prop) (w : World) : Prop :=
  sha_Hash_Sum.l1 t2 t32 out_4 t33 Q w

def sha_Hash_Sum.j4 (t2 : Addr) (t_3 : (Option Addr)) (out_4 : Sl) (Q : Value → World → Prop) (w : World) : Prop :=
  nz t_3 fun a11 =>
  ldA w (Addr.add a11 0) 5 fun c12 =>
  sha_Hash_Sum.j6 t2 out_4 c12 0 Q w

def sha_Hash_Sum.j3 (h_0 : (Option Addr)) (t2 : Addr) (t_3 : (Option Addr)) (Q : Value → World → Prop) (w : World) : Prop :=
  nz h_0 fun a13 =>
  ldI .i64 w (Addr.add a13 69) fun x14 =>
  lt (IntKind.i64.wrap (8 * x14)) fun x15 =>
  Calls Try.prog 76 ⟨[.slice none 0 0, .int .i64 x15]⟩ w fun e16 w17 =>
  ∃ r18 : Sl, e16 = .returned (.slice r18.a r18.len r18.cap) ∧
  Calls Try.prog 60 ⟨[.pointer t_3, .slice r18.a r18.len r18.cap]⟩ w17 fun e19 w20 =>
  e19 = .returned (.tuple ⟨[]⟩) ∧
  sha_Hash_Sum.j4 t2 t_3 ⟨none, 0, 0⟩ Q w20

def sha_Hash_Sum.b2 (h_0 : (Option Addr)) (t2 : Addr) (t_3 : (Option Addr)) (Q : Value → World → Prop) (nx2 : (Option Addr) → Addr → (Option Addr) → World → Prop) (w : World) : Prop :=
  nz t_3 fun a21 =>
  ldI .i64 w (Addr.add a21 69) fun x22 =>
  (64 : Int) ≠ 0 ∧
  lt (Int.tmod x22 64) fun x23 =>
  br ((x23 : Int) != 56) (
  lt (⟨World.heapSize w, 0, none⟩ : Addr) fun a24 =>
  lt (World.alloc w (.cells ⟨[.int .u8 0]⟩ 5)) fun w25 =>
  Calls Try.prog 60 ⟨[.pointer t_3, .slice (some a24) 1 1]⟩ w25 fun e26 w27 =>
  e26 = .returned (.tuple ⟨[]⟩) ∧
  nx2 h_0 t2 t_3 w27) (
  sha_Hash_Sum.j3 h_0 t2 t_3 Q w)

def sha_Hash_Sum.l2 (h_0 : (Option Addr)) (t2 : Addr) (t_3 : (Option Addr)) (Q : Value → World → Prop) (w : World) : Prop :=
  ∃ (I : World → Prop) (μ : World → Nat), I  w ∧ ∀ w : World, I  w → sha_Hash_Sum.b2 h_0 t2 t_3 Q (fun h_0' t2' t_3' w' => (h_0' = h_0 ∧ t2' = t2 ∧ t_3' = t_3) ∧ I  w' ∧ μ  w' < μ  w) w

def sha_Hash_Sum.j2 (h_0 : (Option Addr)) (t2 : Addr) (t_3 : (Option Addr)) (Q : Value → World → Prop) (w : World) : Prop :=
  sha_Hash_Sum.l2 h_0 t2 t_3 Q w

def sha_Hash_Sum.j1 (h_0 : (Option Addr)) (t2 : Addr) (Q : Value → World → Prop) (w : World) : Prop :=
  Calls Try.prog 63 ⟨[.pointer h_0]⟩ w fun e28 w29 =>
  ∃ r30 : (Option Addr), e28 = .returned (.pointer r30) ∧
  lt (⟨World.heapSize w29, 0, none⟩ : Addr) fun a31 =>
  lt (World.alloc w29 (.cells ⟨[.int .u8 128]⟩ 5)) fun w32 =>
  Calls Try.prog 60 ⟨[.pointer r30, .slice (some a31) 1 1]⟩ w32 fun e33 w34 =>
  e33 = .returned (.tuple ⟨[]⟩) ∧
  sha_Hash_Sum.j2 h_0 t2 r30 Q w34

def sha_Hash_Sum (h_0 : (Option Addr)) (Q : Value → World → Prop) (w : World) : Prop :=
  lt (⟨World.heapSize w, 0, none⟩ : Addr) fun a35 =>
  lt (World.alloc w (.cells (zc Try.prog 51) 51)) fun w36 =>
  sha_Hash_Sum.j1 h_0 a35 Q w36

theorem sha_Hash_Sum.ok (h_0 : (Option Addr)) (Q : Value → World → Prop) (w : World) (h : sha_Hash_Sum h_0 Q w) : Calls Try.prog 62 ⟨[.pointer h_0]⟩ w (Ret Q) := by
  refine calls_of_wpc [.cell 2 51] Try.func62 rfl rfl rfl rfl ?_
  refine wpc_seq (fun ρ w => asP (ρ 0) fun h_0 => asA (ρ 2) fun t2 => sha_Hash_Sum.j1 h_0 t2 Q w) ?_ ?_
  · skip
    exact pt_sound hmix _ (Eq.mp (by kernel_rfl) h)
  · intro ρ w h
    obtain ⟨h_0, e0, h⟩ := asP_el h
    obtain ⟨t2, e2, h⟩ := asA_el h
    refine reroot e0 (reroot (upd_other e2 rfl) ?_)
    refine wpc_pre2 hmix (fun ρ w => asP (ρ 0) fun h_0 => asA (ρ 2) fun t2 => asP (ρ 3) fun t_3 => sha_Hash_Sum.j2 h_0 t2 t_3 Q w) (Eq.mp (by kernel_rfl) h) ?_
    intro ρ w h
    obtain ⟨h_0, e0, h⟩ := asP_el h
    obtain ⟨t2, e2, h⟩ := asA_el h
    obtain ⟨t_3, e3, h⟩ := asP_el h
    refine reroot e0 (reroot (upd_other e2 rfl) (reroot (upd_other (upd_other e3 rfl) rfl) ?_))
    refine wpc_seq (fun ρ w => asP (ρ 0) fun h_0 => asA (ρ 2) fun t2 => asP (ρ 3) fun t_3 => sha_Hash_Sum.j3 h_0 t2 t_3 Q w) ?_ ?_
    · skip
      refine wpc_block ?_
      obtain ⟨I, μ, hI, hr⟩ := h
      refine wpc_loopS (α := Unit) (fun s ρ => ρ 0 = .pointer h_0 ∧ ρ 2 = .pointer (some t2) ∧ ρ 3 = .pointer t_3) (fun s w => I  w) (fun s w => μ  w) () ⟨rfl, rfl, rfl⟩ hI ?_
      rintro ⟨⟩ ρ w ⟨e0, e2, e3⟩ hI
      have h := hr  w hI
      clear hr
      obtain ⟨nx2, hnx⟩ : ∃ nx : (Option Addr) → Addr → (Option Addr) → World → Prop, nx = (fun h_0' t2' t_3' w' => (h_0' = h_0 ∧ t2' = t2 ∧ t_3' = t_3) ∧ I  w' ∧ μ  w' < μ  w) := ⟨_, rfl⟩
      rw [← hnx] at h
      refine wpc_norm (M := fun ρ w => asP (ρ 0) fun h_0 => asA (ρ 2) fun t2 => asP (ρ 3) fun t_3 => nx2 h_0 t2 t_3 w) ?_ (fun ρ w h => ?_)
      · skip
        refine reroot e0 (reroot (upd_other e2 rfl) (reroot (upd_other (upd_other e3 rfl) rfl) ?_))
        exact pt_sound hmix _ (Eq.mp (by kernel_rfl) h)
      · skip
        obtain ⟨h_0', e0', h⟩ := asP_el h
        obtain ⟨t2', e2', h⟩ := asA_el h
        obtain ⟨t_3', e3', h⟩ := asP_el h
        rw [hnx] at h
        obtain ⟨hu, hI2, hμ⟩ := h
        obtain ⟨rfl, rfl, rfl⟩ := hu
        exact ⟨(), ⟨e0', e2', e3'⟩, hI2, hμ⟩
    · intro ρ w h
      obtain ⟨h_0, e0, h⟩ := asP_el h
      obtain ⟨t2, e2, h⟩ := asA_el h
      obtain ⟨t_3, e3, h⟩ := asP_el h
      refine reroot e0 (reroot (upd_other e2 rfl) (reroot (upd_other (upd_other e3 rfl) rfl) ?_))
      refine wpc_pre2 hmix (fun ρ w => asA (ρ 2) fun t2 => asP (ρ 3) fun t_3 => asL (ρ 4) fun out_4 => sha_Hash_Sum.j4 t2 t_3 out_4 Q w) (Eq.mp (by kernel_rfl) h) ?_
      intro ρ w h
      obtain ⟨t2, e2, h⟩ := asA_el h
      obtain ⟨t_3, e3, h⟩ := asP_el h
      obtain ⟨out_4, e4, h⟩ := asL_el h
      refine reroot e2 (reroot (upd_other e3 rfl) (reroot (upd_other (upd_other e4 rfl) rfl) ?_))
      refine wpc_seq (fun ρ w => asA (ρ 2) fun t2 => asL (ρ 4) fun out_4 => sha_Hash_Sum.j5 t2 out_4 Q w) ?_ ?_
      · skip
        refine wpc_seq (fun ρ w => asA (ρ 2) fun t2 => asL (ρ 4) fun out_4 => asG (ρ 32) fun t32 => asI .i64 (ρ 33) fun t33 => sha_Hash_Sum.j6 t2 out_4 t32 t33 Q w) ?_ ?_
        · skip
          exact pt_sound hmix _ (Eq.mp (by kernel_rfl) h)
        · intro ρ w h
          obtain ⟨t2, e2, h⟩ := asA_el h
          obtain ⟨out_4, e4, h⟩ := asL_el h
          obtain ⟨t32, e32, h⟩ := asG_el h
          obtain ⟨t33, e33, h⟩ := asI_el h
          refine reroot e2 (reroot (upd_other e4 rfl) (reroot (upd_other (upd_other e32 rfl) rfl) (reroot (upd_other (upd_other (upd_other e33 rfl) rfl) rfl) ?_)))
          refine wpc_block ?_
          obtain ⟨I, μ, hI, hr⟩ := h
          refine wpc_loopS (α := Sl × Int) (fun s ρ => ρ 4 = .slice s.1.a s.1.len s.1.cap ∧ ρ 33 = .int .i64 s.2 ∧ ρ 2 = .pointer (some t2) ∧ ρ 32 = .agg t32) (fun s w => I s.1 s.2 w) (fun s w => μ s.1 s.2 w) (out_4, t33) ⟨rfl, rfl, rfl, rfl⟩ hI ?_
          rintro ⟨out_4, t33⟩ ρ w ⟨e4, e33, e2, e32⟩ hI
          have h := hr out_4 t33 w hI
          clear hr
          obtain ⟨nx1, hnx⟩ : ∃ nx : Addr → (Array Value) → Sl → Int → World → Prop, nx = (fun t2' t32' out_4' t33' w' => (t2' = t2 ∧ t32' = t32) ∧ I out_4' t33' w' ∧ μ out_4' t33' w' < μ out_4 t33 w) := ⟨_, rfl⟩
          rw [← hnx] at h
          refine wpc_norm (M := fun ρ w => asA (ρ 2) fun t2 => asG (ρ 32) fun t32 => asL (ρ 4) fun out_4 => asI .i64 (ρ 33) fun t33 => nx1 t2 t32 out_4 t33 w) ?_ (fun ρ w h => ?_)
          · skip
            refine reroot e2 (reroot (upd_other e4 rfl) (reroot (upd_other (upd_other e32 rfl) rfl) (reroot (upd_other (upd_other (upd_other e33 rfl) rfl) rfl) ?_)))
            exact pt_sound hmix _ (Eq.mp (by kernel_rfl) h)
          · skip
            obtain ⟨t2', e2', h⟩ := asA_el h
            obtain ⟨t32', e32', h⟩ := asG_el h
            obtain ⟨out_4', e4', h⟩ := asL_el h
            obtain ⟨t33', e33', h⟩ := asI_el h
            rw [hnx] at h
            obtain ⟨hu, hI2, hμ⟩ := h
            obtain ⟨rfl, rfl⟩ := hu
            exact ⟨(out_4', t33'), ⟨e4', e33', e2', e32'⟩, hI2, hμ⟩
      · intro ρ w h
        obtain ⟨t2, e2, h⟩ := asA_el h
        obtain ⟨out_4, e4, h⟩ := asL_el h
        refine reroot e2 (reroot (upd_other e4 rfl) ?_)
        exact pt_sound hmix _ (Eq.mp (by kernel_rfl) h)

/-! trove/sha.New -/
def sha_New  (Q : Value → World → Prop) (w : World) : Prop :=
  ((⟨[.int .u32 1732584193, .int .u32 4023233417, .int .u32 2562383102, .int .u32 271733878, .int .u32 3285377520]⟩ : Array Value)).size = 5 ∧
  lt (⟨World.heapSize w, 0, none⟩ : Addr) fun a1 =>
  lt (World.alloc w (.cells (⟨(spl (zc Try.prog 156).toList 0 (⟨[.int .u32 1732584193, .int .u32 4023233417, .int .u32 2562383102, .int .u32 271733878, .int .u32 3285377520]⟩ : Array Value))⟩ : Array Value) 156)) fun w2 =>
  Q (.pointer (some a1)) w2

theorem sha_New.ok  (Q : Value → World → Prop) (w : World) (h : sha_New  Q w) : Calls Try.prog 59 ⟨[]⟩ w (Ret Q) := by
  refine calls_of_wpc [.tmp 0] Try.func59 rfl rfl rfl rfl ?_
  exact pt_sound hmix _ (Eq.mp (by kernel_rfl) h)

/-! trove/sha.Sum -/
def sha_Sum (b_0 : Sl) (Q : Value → World → Prop) (w : World) : Prop :=
  lt (⟨World.heapSize w, 0, none⟩ : Addr) fun a1 =>
  lt (World.alloc w (.cells (zc Try.prog 51) 51)) fun w2 =>
  Calls Try.prog 59 ⟨[]⟩ w2 fun e3 w4 =>
  ∃ r5 : (Option Addr), e3 = .returned (.pointer r5) ∧
  Calls Try.prog 60 ⟨[.pointer r5, .slice b_0.a b_0.len b_0.cap]⟩ w4 fun e6 w7 =>
  e6 = .returned (.tuple ⟨[]⟩) ∧
  Calls Try.prog 62 ⟨[.pointer r5]⟩ w7 fun e8 w9 =>
  ∃ r10 : (Array Value), e8 = .returned (.agg r10) ∧
  (r10).size = 20 ∧
  stA w9 a1 r10 fun w11 =>
  ldA w11 a1 20 fun c12 =>
  Q (.agg c12) w11

theorem sha_Sum.ok (b_0 : Sl) (Q : Value → World → Prop) (w : World) (h : sha_Sum b_0 Q w) : Calls Try.prog 57 ⟨[.slice b_0.a b_0.len b_0.cap]⟩ w (Ret Q) := by
  refine calls_of_wpc [.cell 2 51] Try.func57 rfl rfl rfl rfl ?_
  exact pt_sound hmix _ (Eq.mp (by kernel_rfl) h)

end Go.Proofs.Ytkajimndclhgaaa
