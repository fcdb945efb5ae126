/- PRINTED BY gen.py (own work): what calls come to, and the proofs of it. -/
import Derived.Test.YtkajimndclhgaaaVcJ
import Derived.Test.YtkajimndclhgaaaProg
namespace Go.Proofs.Ytkajimndclhgaaa
open Go Go.Proofs
set_option linter.unusedVariables false
set_option maxRecDepth 100000

/-! trove/trovelaw1.known -/
def trovelaw1_known  (Q : Value → World → Prop) (w : World) : Prop :=
  Calls Try.prog 74 ⟨[.slice none 0 0, .int .i64 258]⟩ w fun e1 w2 =>
  ∃ r3 : Sl, e1 = .returned (.slice r3.a r3.len r3.cap) ∧
  Calls Try.prog 75 ⟨[.slice r3.a r3.len r3.cap, .int .i64 (-1)]⟩ w2 fun e4 w5 =>
  ∃ r6 : Sl, e4 = .returned (.slice r6.a r6.len r6.cap) ∧
  Calls Try.prog 76 ⟨[.slice r6.a r6.len r6.cap, .int .i64 7]⟩ w5 fun e7 w8 =>
  ∃ r9 : Sl, e7 = .returned (.slice r9.a r9.len r9.cap) ∧
  Calls Try.prog 77 ⟨[.slice r9.a r9.len r9.cap]⟩ w8 fun e10 w11 =>
  ∃ r12 : (Option Addr), e10 = .returned (.pointer r12) ∧
  Calls Try.prog 89 ⟨[.slice none 0 0, .int .i64 16512]⟩ w11 fun e13 w14 =>
  ∃ r15 : Sl, e13 = .returned (.slice r15.a r15.len r15.cap) ∧
  Calls Try.prog 93 ⟨[.slice r15.a r15.len r15.cap]⟩ w14 fun e16 w17 =>
  ∃ r18 : Int, ∃ r19 : Int, ∃ r20 : Int, e16 = .returned (.tuple ⟨[.int .i64 r18, .int .i64 r19, .int .i64 r20]⟩) ∧
  lt (⟨World.heapSize w17, 0, none⟩ : Addr) fun a21 =>
  lt (World.alloc w17 (.cells ⟨[.int .u8 133, .int .u8 1]⟩ 5)) fun w22 =>
  Calls Try.prog 92 ⟨[.slice (some a21) 2 2]⟩ w22 fun e23 w24 =>
  ∃ r25 : Int, ∃ r26 : Int, ∃ r27 : Int, e23 = .returned (.tuple ⟨[.int .i64 r25, .int .i64 r26, .int .i64 r27]⟩) ∧
  br (!(Option.isNone r12)) (
  br ((((r9.len : Nat) : Int) : Int) == 14) (
  Calls Try.prog 78 ⟨[.pointer r12]⟩ w24 fun e28 w29 =>
  ∃ r30 : Int, e28 = .returned (.int .i64 r30) ∧
  br ((r30 : Int) == 258) (
  Calls Try.prog 79 ⟨[.pointer r12]⟩ w29 fun e31 w32 =>
  ∃ r33 : Int, e31 = .returned (.int .i64 r33) ∧
  br ((r33 : Int) == 4294967295) (
  Calls Try.prog 80 ⟨[.pointer r12]⟩ w32 fun e34 w35 =>
  ∃ r36 : Int, e34 = .returned (.int .i64 r36) ∧
  br ((r36 : Int) == 7) (
  Calls Try.prog 81 ⟨[.pointer r12]⟩ w35 fun e37 w38 =>
  ∃ r39 : Int, e37 = .returned (.int .i64 r39) ∧
  br ((r39 : Int) == 0) (
  Calls Try.prog 84 ⟨[.pointer r12]⟩ w38 fun e40 w41 =>
  ∃ r42 : Int, e40 = .returned (.int .i64 r42) ∧
  br ((r42 : Int) == 0) (
  Calls Try.prog 81 ⟨[.pointer r12]⟩ w41 fun e43 w44 =>
  ∃ r45 : Int, e43 = .returned (.int .i64 r45) ∧
  br ((r45 : Int) == 3) (
  br ((r18 : Int) == 16512) (
  br ((r19 : Int) == 3) (
  br ((r20 : Int) == 0) (
  br ((r25 : Int) == 133) (
  br ((r26 : Int) == 2) (
  Q (.bool ((r27 : Int) == 0)) w44) (
  Q (.bool false) w44)) (
  Q (.bool false) w44)) (
  Q (.bool false) w44)) (
  Q (.bool false) w44)) (
  Q (.bool false) w44)) (
  Q (.bool false) w44)) (
  Q (.bool false) w41)) (
  Q (.bool false) w38)) (
  Q (.bool false) w35)) (
  Q (.bool false) w32)) (
  Q (.bool false) w29)) (
  Q (.bool false) w24)) (
  Q (.bool false) w24)

theorem trovelaw1_known.ok  (Q : Value → World → Prop) (w : World) (h : trovelaw1_known  Q w) : Calls Try.prog 73 ⟨[]⟩ w (Ret Q) := by
  refine calls_of_wpc [.tmp 0] Try.func73 rfl rfl rfl rfl ?_
  exact pt_sound hmix _ (Eq.mp (by kernel_rfl) h)

/-! trove/trovelaw1.front -/
def trovelaw1_front (a_0 : Sl) (b_1 : Sl) (Q : Value → World → Prop) (w : World) : Prop :=
  lt (World.drew w) fun w1 =>
  br (decide ((((a_0.len : Nat) : Int) : Int) ≤ ((b_1.len : Nat) : Int))) (
  bd ((a_0.len : Nat) : Int) b_1.cap fun n2 =>
  lt (⟨cutA b_1.a b_1.cap 0 1, n2 - 0, b_1.cap - 0⟩ : Sl) fun s3 =>
  (btS w1 s3.a s3.len fun x4 =>
  btS w1 a_0.a a_0.len fun x5 =>
  Q (.bool (ByteArray.toList x4 == ByteArray.toList x5)) w1) ∧ (
  btS w1 a_0.a a_0.len fun x6 =>
  btS w1 s3.a s3.len fun x7 =>
  Q (.bool (ByteArray.toList x7 == ByteArray.toList x6)) w1)) (
  (Q (.bool false) w1) ∧ (
  Q (.bool false) w1))

theorem trovelaw1_front.ok (a_0 : Sl) (b_1 : Sl) (Q : Value → World → Prop) (w : World) (h : trovelaw1_front a_0 b_1 Q w) : Calls Try.prog 91 ⟨[.slice a_0.a a_0.len a_0.cap, .slice b_1.a b_1.len b_1.cap]⟩ w (Ret Q) := by
  refine calls_of_wpc [.tmp 4] Try.func91 rfl rfl rfl rfl ?_
  exact pt_sound hmix _ (Eq.mp (by kernel_rfl) h)

/-! trove/trovelaw1.BinRows -/
def trovelaw1_BinRows.j5 (t5 : (Option Addr)) (Q : Value → World → Prop) (w : World) : Prop :=
  Calls Try.prog 84 ⟨[.pointer t5]⟩ w fun e1 w2 =>
  ∃ r3 : Int, e1 = .returned (.int .i64 r3) ∧
  br ((r3 : Int) == 0) (
  Calls Try.prog 81 ⟨[.pointer t5]⟩ w2 fun e4 w5 =>
  ∃ r6 : Int, e4 = .returned (.int .i64 r6) ∧
  Q (.bool ((r6 : Int) == 3)) w5) (
  Q (.bool false) w2)

def trovelaw1_BinRows.j8 (d_0 : Sl) (t3 : Sl) (t5 : (Option Addr)) (t6 : Int) (t7 : Int) (Q : Value → World → Prop) (nx1 : Sl → Sl → (Option Addr) → Int → Int → World → Prop) (w : World) : Prop :=
  lt (IntKind.i64.wrap (t7 + 1)) fun x7 =>
  nx1 d_0 t3 t5 t6 x7 w

def trovelaw1_BinRows.j10 (d_0 : Sl) (t3 : Sl) (t5 : (Option Addr)) (t6 : Int) (t7 : Int) (t8 : Int) (t9 : Int) (Q : Value → World → Prop) (nx1 : Sl → Sl → (Option Addr) → Int → Int → World → Prop) (w : World) : Prop :=
  br ((t8 : Int) != t9) (
  Q (.bool false) w) (
  Calls Try.prog 83 ⟨[.pointer t5]⟩ w fun e8 w9 =>
  ∃ r10 : Int, e8 = .returned (.int .i64 r10) ∧
  br ((r10 : Int) != t6) (
  Q (.bool false) w9) (
  Calls Try.prog 82 ⟨[.pointer t5]⟩ w9 fun e11 w12 =>
  ∃ r13 : Int, e11 = .returned (.int .i64 r13) ∧
  lt (IntKind.i64.wrap (((t3.len : Nat) : Int) - t6)) fun x14 =>
  br ((r13 : Int) != x14) (
  Q (.bool false) w12) (
  trovelaw1_BinRows.j8 d_0 t3 t5 t6 t7 Q nx1 w12)))

def trovelaw1_BinRows.j9 (d_0 : Sl) (t3 : Sl) (t5 : (Option Addr)) (t6 : Int) (t7 : Int) (Q : Value → World → Prop) (nx1 : Sl → Sl → (Option Addr) → Int → Int → World → Prop) (w : World) : Prop :=
  ixS d_0.a d_0.len t7 1 fun a15 =>
  ldI .i64 w a15 fun x16 =>
  (3 : Int) ≠ 0 ∧
  lt (Int.tmod t7 3) fun x17 =>
  br ((x17 : Int) == 0) (
  Calls Try.prog 78 ⟨[.pointer t5]⟩ w fun e18 w19 =>
  ∃ r20 : Int, e18 = .returned (.int .i64 r20) ∧
  lt (andV .i64 x16 65535) fun x21 =>
  lt (IntKind.i64.wrap (t6 + 2)) fun x22 =>
  trovelaw1_BinRows.j10 d_0 t3 t5 x22 t7 r20 x21 Q nx1 w19) (
  br ((x17 : Int) == 1) (
  Calls Try.prog 79 ⟨[.pointer t5]⟩ w fun e23 w24 =>
  ∃ r25 : Int, e23 = .returned (.int .i64 r25) ∧
  lt (andV .i64 x16 4294967295) fun x26 =>
  lt (IntKind.i64.wrap (t6 + 4)) fun x27 =>
  trovelaw1_BinRows.j10 d_0 t3 t5 x27 t7 r25 x26 Q nx1 w24) (
  Calls Try.prog 80 ⟨[.pointer t5]⟩ w fun e28 w29 =>
  ∃ r30 : Int, e28 = .returned (.int .i64 r30) ∧
  br (decide ((x16 : Int) < 0)) (
  Calls Try.prog 81 ⟨[.pointer t5]⟩ w29 fun e31 w32 =>
  ∃ r33 : Int, e31 = .returned (.int .i64 r33) ∧
  br ((r33 : Int) == 5) (
  br ((r30 : Int) == 0) (
  Calls Try.prog 82 ⟨[.pointer t5]⟩ w32 fun e34 w35 =>
  ∃ r36 : Int, e34 = .returned (.int .i64 r36) ∧
  Q (.bool ((r36 : Int) == 0)) w35) (
  Q (.bool false) w32)) (
  Q (.bool false) w32)) (
  lt (IntKind.i64.wrap (t6 + 8)) fun x37 =>
  trovelaw1_BinRows.j10 d_0 t3 t5 x37 t7 r30 x16 Q nx1 w29)))

def trovelaw1_BinRows.j7 (d_0 : Sl) (t3 : Sl) (t5 : (Option Addr)) (t6 : Int) (t7 : Int) (Q : Value → World → Prop) (nx1 : Sl → Sl → (Option Addr) → Int → Int → World → Prop) (w : World) : Prop :=
  trovelaw1_BinRows.j9 d_0 t3 t5 t6 t7 Q nx1 w

def trovelaw1_BinRows.b1 (d_0 : Sl) (t3 : Sl) (t5 : (Option Addr)) (t6 : Int) (t7 : Int) (Q : Value → World → Prop) (nx1 : Sl → Sl → (Option Addr) → Int → Int → World → Prop) (w : World) : Prop :=
  br (decide ((t7 : Int) < ((d_0.len : Nat) : Int))) (
  trovelaw1_BinRows.j7 d_0 t3 t5 t6 t7 Q nx1 w) (
  trovelaw1_BinRows.j5 t5 Q w)

def trovelaw1_BinRows.l1 (d_0 : Sl) (t3 : Sl) (t5 : (Option Addr)) (t6 : Int) (t7 : Int) (Q : Value → World → Prop) (w : World) : Prop :=
  ∃ (I : Int → Int → World → Prop) (μ : Int → Int → World → Nat), I t6 t7 w ∧ ∀ t6 : Int, ∀ t7 : Int, ∀ w : World, I t6 t7 w → trovelaw1_BinRows.b1 d_0 t3 t5 t6 t7 Q (fun d_0' t3' t5' t6' t7' w' => (d_0' = d_0 ∧ t3' = t3 ∧ t5' = t5) ∧ I t6' t7' w' ∧ μ t6' t7' w' < μ t6 t7 w) w

def trovelaw1_BinRows.j6 (d_0 : Sl) (t3 : Sl) (t5 : (Option Addr)) (t6 : Int) (t7 : Int) (Q : Value → World → Prop) (w : World) : Prop :=
  trovelaw1_BinRows.l1 d_0 t3 t5 t6 t7 Q w

def trovelaw1_BinRows.j4 (d_0 : Sl) (t3 : Sl) (t5 : (Option Addr)) (t6 : Int) (Q : Value → World → Prop) (w : World) : Prop :=
  trovelaw1_BinRows.j6 d_0 t3 t5 t6 0 Q w

def trovelaw1_BinRows.j3 (d_0 : Sl) (t3 : Sl) (Q : Value → World → Prop) (w : World) : Prop :=
  Calls Try.prog 77 ⟨[.slice t3.a t3.len t3.cap]⟩ w fun e38 w39 =>
  ∃ r40 : (Option Addr), e38 = .returned (.pointer r40) ∧
  trovelaw1_BinRows.j4 d_0 t3 r40 0 Q w39

def trovelaw1_BinRows.b2 (d_0 : Sl) (t3 : Sl) (t4 : Int) (Q : Value → World → Prop) (nx2 : Sl → Sl → Int → World → Prop) (w : World) : Prop :=
  br (decide ((t4 : Int) < ((d_0.len : Nat) : Int))) (
  (3 : Int) ≠ 0 ∧
  lt (Int.tmod t4 3) fun x41 =>
  br ((x41 : Int) == 0) (
  ixS d_0.a d_0.len t4 1 fun a42 =>
  ldI .i64 w a42 fun x43 =>
  Calls Try.prog 74 ⟨[.slice t3.a t3.len t3.cap, .int .i64 x43]⟩ w fun e44 w45 =>
  ∃ r46 : Sl, e44 = .returned (.slice r46.a r46.len r46.cap) ∧
  lt (IntKind.i64.wrap (t4 + 1)) fun x47 =>
  nx2 d_0 r46 x47 w45) (
  br ((x41 : Int) == 1) (
  ixS d_0.a d_0.len t4 1 fun a48 =>
  ldI .i64 w a48 fun x49 =>
  Calls Try.prog 75 ⟨[.slice t3.a t3.len t3.cap, .int .i64 x49]⟩ w fun e50 w51 =>
  ∃ r52 : Sl, e50 = .returned (.slice r52.a r52.len r52.cap) ∧
  lt (IntKind.i64.wrap (t4 + 1)) fun x53 =>
  nx2 d_0 r52 x53 w51) (
  ixS d_0.a d_0.len t4 1 fun a54 =>
  ldI .i64 w a54 fun x55 =>
  Calls Try.prog 76 ⟨[.slice t3.a t3.len t3.cap, .int .i64 x55]⟩ w fun e56 w57 =>
  ∃ r58 : Sl, e56 = .returned (.slice r58.a r58.len r58.cap) ∧
  lt (IntKind.i64.wrap (t4 + 1)) fun x59 =>
  nx2 d_0 r58 x59 w57))) (
  trovelaw1_BinRows.j3 d_0 t3 Q w)

def trovelaw1_BinRows.l2 (d_0 : Sl) (t3 : Sl) (t4 : Int) (Q : Value → World → Prop) (w : World) : Prop :=
  ∃ (I : Sl → Int → World → Prop) (μ : Sl → Int → World → Nat), I t3 t4 w ∧ ∀ t3 : Sl, ∀ t4 : Int, ∀ w : World, I t3 t4 w → trovelaw1_BinRows.b2 d_0 t3 t4 Q (fun d_0' t3' t4' w' => (d_0' = d_0) ∧ I t3' t4' w' ∧ μ t3' t4' w' < μ t3 t4 w) w

def trovelaw1_BinRows.j11 (d_0 : Sl) (t3 : Sl) (t4 : Int) (Q : Value → World → Prop) (w : World) : Prop :=
  trovelaw1_BinRows.l2 d_0 t3 t4 Q w

def trovelaw1_BinRows.j2 (d_0 : Sl) (t3 : Sl) (Q : Value → World → Prop) (w : World) : Prop :=
  trovelaw1_BinRows.j11 d_0 t3 0 Q w

def trovelaw1_BinRows.j1 (d_0 : Sl) (Q : Value → World → Prop) (w : World) : Prop :=
  br (decide ((((d_0.len : Nat) : Int) : Int) > 200)) (
  Q (.bool true) w) (
  trovelaw1_BinRows.j2 d_0 ⟨none, 0, 0⟩ Q w)

def trovelaw1_BinRows (d_0 : Sl) (Q : Value → World → Prop) (w : World) : Prop :=
  Calls Try.prog 73 ⟨[]⟩ w fun e60 w61 =>
  ∃ r62 : Bool, e60 = .returned (.bool r62) ∧
  br (!r62) (
  Q (.bool false) w61) (
  trovelaw1_BinRows.j1 d_0 Q w61)

theorem trovelaw1_BinRows.ok (d_0 : Sl) (Q : Value → World → Prop) (w : World) (h : trovelaw1_BinRows d_0 Q w) : Calls Try.prog 15 ⟨[.slice d_0.a d_0.len d_0.cap]⟩ w (Ret Q) := by
  refine calls_of_wpc [.tmp 2] Try.func15 rfl rfl rfl rfl ?_
  refine wpc_pre2 hmix (fun ρ w => asL (ρ 0) fun d_0 => trovelaw1_BinRows.j1 d_0 Q w) (Eq.mp (by kernel_rfl) h) ?_
  intro ρ w h
  obtain ⟨d_0, e0, h⟩ := asL_el h
  refine reroot e0 ?_
  refine wpc_pre2 hmix (fun ρ w => asL (ρ 0) fun d_0 => asL (ρ 3) fun t3 => trovelaw1_BinRows.j2 d_0 t3 Q w) (Eq.mp (by kernel_rfl) h) ?_
  intro ρ w h
  obtain ⟨d_0, e0, h⟩ := asL_el h
  obtain ⟨t3, e3, h⟩ := asL_el h
  refine reroot e0 (reroot (upd_other e3 rfl) ?_)
  refine wpc_seq (fun ρ w => asL (ρ 0) fun d_0 => asL (ρ 3) fun t3 => trovelaw1_BinRows.j3 d_0 t3 Q w) ?_ ?_
  · skip
    refine wpc_seq (fun ρ w => asL (ρ 0) fun d_0 => asL (ρ 3) fun t3 => asI .i64 (ρ 4) fun t4 => trovelaw1_BinRows.j11 d_0 t3 t4 Q w) ?_ ?_
    · skip
      exact pt_sound hmix _ (Eq.mp (by kernel_rfl) h)
    · intro ρ w h
      obtain ⟨d_0, e0, h⟩ := asL_el h
      obtain ⟨t3, e3, h⟩ := asL_el h
      obtain ⟨t4, e4, h⟩ := asI_el h
      refine reroot e0 (reroot (upd_other e3 rfl) (reroot (upd_other (upd_other e4 rfl) rfl) ?_))
      refine wpc_block ?_
      obtain ⟨I, μ, hI, hr⟩ := h
      refine wpc_loopS (α := Sl × Int) (fun s ρ => ρ 3 = .slice s.1.a s.1.len s.1.cap ∧ ρ 4 = .int .i64 s.2 ∧ ρ 0 = .slice d_0.a d_0.len d_0.cap) (fun s w => I s.1 s.2 w) (fun s w => μ s.1 s.2 w) (t3, t4) ⟨rfl, rfl, rfl⟩ hI ?_
      rintro ⟨t3, t4⟩ ρ w ⟨e3, e4, e0⟩ hI
      have h := hr t3 t4 w hI
      clear hr
      obtain ⟨nx2, hnx⟩ : ∃ nx : Sl → Sl → Int → World → Prop, nx = (fun d_0' t3' t4' w' => (d_0' = d_0) ∧ I t3' t4' w' ∧ μ t3' t4' w' < μ t3 t4 w) := ⟨_, rfl⟩
      rw [← hnx] at h
      refine wpc_norm (M := fun ρ w => asL (ρ 0) fun d_0 => asL (ρ 3) fun t3 => asI .i64 (ρ 4) fun t4 => nx2 d_0 t3 t4 w) ?_ (fun ρ w h => ?_)
      · skip
        refine reroot e0 (reroot (upd_other e3 rfl) (reroot (upd_other (upd_other e4 rfl) rfl) ?_))
        exact pt_sound hmix _ (Eq.mp (by kernel_rfl) h)
      · skip
        obtain ⟨d_0', e0', h⟩ := asL_el h
        obtain ⟨t3', e3', h⟩ := asL_el h
        obtain ⟨t4', e4', h⟩ := asI_el h
        rw [hnx] at h
        obtain ⟨hu, hI2, hμ⟩ := h
        obtain rfl := hu
        exact ⟨(t3', t4'), ⟨e3', e4', e0'⟩, hI2, hμ⟩
  · intro ρ w h
    obtain ⟨d_0, e0, h⟩ := asL_el h
    obtain ⟨t3, e3, h⟩ := asL_el h
    refine reroot e0 (reroot (upd_other e3 rfl) ?_)
    refine wpc_pre2 hmix (fun ρ w => asL (ρ 0) fun d_0 => asL (ρ 3) fun t3 => asP (ρ 5) fun t5 => asI .i64 (ρ 6) fun t6 => trovelaw1_BinRows.j4 d_0 t3 t5 t6 Q w) (Eq.mp (by kernel_rfl) h) ?_
    intro ρ w h
    obtain ⟨d_0, e0, h⟩ := asL_el h
    obtain ⟨t3, e3, h⟩ := asL_el h
    obtain ⟨t5, e5, h⟩ := asP_el h
    obtain ⟨t6, e6, h⟩ := asI_el h
    refine reroot e0 (reroot (upd_other e3 rfl) (reroot (upd_other (upd_other e5 rfl) rfl) (reroot (upd_other (upd_other (upd_other e6 rfl) rfl) rfl) ?_)))
    refine wpc_seq (fun ρ w => asP (ρ 5) fun t5 => trovelaw1_BinRows.j5 t5 Q w) ?_ ?_
    · skip
      refine wpc_seq (fun ρ w => asL (ρ 0) fun d_0 => asL (ρ 3) fun t3 => asP (ρ 5) fun t5 => asI .i64 (ρ 6) fun t6 => asI .i64 (ρ 7) fun t7 => trovelaw1_BinRows.j6 d_0 t3 t5 t6 t7 Q w) ?_ ?_
      · skip
        exact pt_sound hmix _ (Eq.mp (by kernel_rfl) h)
      · intro ρ w h
        obtain ⟨d_0, e0, h⟩ := asL_el h
        obtain ⟨t3, e3, h⟩ := asL_el h
        obtain ⟨t5, e5, h⟩ := asP_el h
        obtain ⟨t6, e6, h⟩ := asI_el h
        obtain ⟨t7, e7, h⟩ := asI_el h
        refine reroot e0 (reroot (upd_other e3 rfl) (reroot (upd_other (upd_other e5 rfl) rfl) (reroot (upd_other (upd_other (upd_other e6 rfl) rfl) rfl) (reroot (upd_other (upd_other (upd_other (upd_other e7 rfl) rfl) rfl) rfl) ?_))))
        refine wpc_block ?_
        obtain ⟨I, μ, hI, hr⟩ := h
        refine wpc_loopS (α := Int × Int) (fun s ρ => ρ 6 = .int .i64 s.1 ∧ ρ 7 = .int .i64 s.2 ∧ ρ 0 = .slice d_0.a d_0.len d_0.cap ∧ ρ 3 = .slice t3.a t3.len t3.cap ∧ ρ 5 = .pointer t5) (fun s w => I s.1 s.2 w) (fun s w => μ s.1 s.2 w) (t6, t7) ⟨rfl, rfl, rfl, rfl, rfl⟩ hI ?_
        rintro ⟨t6, t7⟩ ρ w ⟨e6, e7, e0, e3, e5⟩ hI
        have h := hr t6 t7 w hI
        clear hr
        obtain ⟨nx1, hnx⟩ : ∃ nx : Sl → Sl → (Option Addr) → Int → Int → World → Prop, nx = (fun d_0' t3' t5' t6' t7' w' => (d_0' = d_0 ∧ t3' = t3 ∧ t5' = t5) ∧ I t6' t7' w' ∧ μ t6' t7' w' < μ t6 t7 w) := ⟨_, rfl⟩
        rw [← hnx] at h
        refine wpc_norm (M := fun ρ w => asL (ρ 0) fun d_0 => asL (ρ 3) fun t3 => asP (ρ 5) fun t5 => asI .i64 (ρ 6) fun t6 => asI .i64 (ρ 7) fun t7 => nx1 d_0 t3 t5 t6 t7 w) ?_ (fun ρ w h => ?_)
        · skip
          refine reroot e0 (reroot (upd_other e3 rfl) (reroot (upd_other (upd_other e5 rfl) rfl) (reroot (upd_other (upd_other (upd_other e6 rfl) rfl) rfl) (reroot (upd_other (upd_other (upd_other (upd_other e7 rfl) rfl) rfl) rfl) ?_))))
          refine wpc_seq (fun ρ w => asL (ρ 0) fun d_0 => asL (ρ 3) fun t3 => asP (ρ 5) fun t5 => asI .i64 (ρ 6) fun t6 => asI .i64 (ρ 7) fun t7 => trovelaw1_BinRows.j7 d_0 t3 t5 t6 t7 Q nx1 w) ?_ ?_
          · skip
            exact pt_sound hmix _ (Eq.mp (by kernel_rfl) h)
          · intro ρ w h
            obtain ⟨d_0, e0, h⟩ := asL_el h
            obtain ⟨t3, e3, h⟩ := asL_el h
            obtain ⟨t5, e5, h⟩ := asP_el h
            obtain ⟨t6, e6, h⟩ := asI_el h
            obtain ⟨t7, e7, h⟩ := asI_el h
            refine reroot e0 (reroot (upd_other e3 rfl) (reroot (upd_other (upd_other e5 rfl) rfl) (reroot (upd_other (upd_other (upd_other e6 rfl) rfl) rfl) (reroot (upd_other (upd_other (upd_other (upd_other e7 rfl) rfl) rfl) rfl) ?_))))
            refine wpc_seq (fun ρ w => asL (ρ 0) fun d_0 => asL (ρ 3) fun t3 => asP (ρ 5) fun t5 => asI .i64 (ρ 6) fun t6 => asI .i64 (ρ 7) fun t7 => trovelaw1_BinRows.j8 d_0 t3 t5 t6 t7 Q nx1 w) ?_ ?_
            · skip
              refine wpc_block ?_
              refine wpc_seq (fun ρ w => asL (ρ 0) fun d_0 => asL (ρ 3) fun t3 => asP (ρ 5) fun t5 => asI .i64 (ρ 6) fun t6 => asI .i64 (ρ 7) fun t7 => trovelaw1_BinRows.j9 d_0 t3 t5 t6 t7 Q nx1 w) ?_ ?_
              · skip
                exact pt_sound hmix _ (Eq.mp (by kernel_rfl) h)
              · intro ρ w h
                obtain ⟨d_0, e0, h⟩ := asL_el h
                obtain ⟨t3, e3, h⟩ := asL_el h
                obtain ⟨t5, e5, h⟩ := asP_el h
                obtain ⟨t6, e6, h⟩ := asI_el h
                obtain ⟨t7, e7, h⟩ := asI_el h
                refine reroot e0 (reroot (upd_other e3 rfl) (reroot (upd_other (upd_other e5 rfl) rfl) (reroot (upd_other (upd_other (upd_other e6 rfl) rfl) rfl) (reroot (upd_other (upd_other (upd_other (upd_other e7 rfl) rfl) rfl) rfl) ?_))))
                refine wpc_pre2 hmix (fun ρ w => asL (ρ 0) fun d_0 => asL (ρ 3) fun t3 => asP (ρ 5) fun t5 => asI .i64 (ρ 6) fun t6 => asI .i64 (ρ 7) fun t7 => asI .i64 (ρ 8) fun t8 => asI .i64 (ρ 9) fun t9 => trovelaw1_BinRows.j10 d_0 t3 t5 t6 t7 t8 t9 Q nx1 w) (Eq.mp (by kernel_rfl) h) ?_
                intro ρ w h
                obtain ⟨d_0, e0, h⟩ := asL_el h
                obtain ⟨t3, e3, h⟩ := asL_el h
                obtain ⟨t5, e5, h⟩ := asP_el h
                obtain ⟨t6, e6, h⟩ := asI_el h
                obtain ⟨t7, e7, h⟩ := asI_el h
                obtain ⟨t8, e8, h⟩ := asI_el h
                obtain ⟨t9, e9, h⟩ := asI_el h
                refine reroot e0 (reroot (upd_other e3 rfl) (reroot (upd_other (upd_other e5 rfl) rfl) (reroot (upd_other (upd_other (upd_other e6 rfl) rfl) rfl) (reroot (upd_other (upd_other (upd_other (upd_other e7 rfl) rfl) rfl) rfl) (reroot (upd_other (upd_other (upd_other (upd_other (upd_other e8 rfl) rfl) rfl) rfl) rfl) (reroot (upd_other (upd_other (upd_other (upd_other (upd_other (upd_other e9 rfl) rfl) rfl) rfl) rfl) rfl) ?_))))))
                exact pt_sound hmix _ (Eq.mp (by kernel_rfl) h)
            · intro ρ w h
              obtain ⟨d_0, e0, h⟩ := asL_el h
              obtain ⟨t3, e3, h⟩ := asL_el h
              obtain ⟨t5, e5, h⟩ := asP_el h
              obtain ⟨t6, e6, h⟩ := asI_el h
              obtain ⟨t7, e7, h⟩ := asI_el h
              refine reroot e0 (reroot (upd_other e3 rfl) (reroot (upd_other (upd_other e5 rfl) rfl) (reroot (upd_other (upd_other (upd_other e6 rfl) rfl) rfl) (reroot (upd_other (upd_other (upd_other (upd_other e7 rfl) rfl) rfl) rfl) ?_))))
              exact pt_sound hmix _ (Eq.mp (by kernel_rfl) h)
        · skip
          obtain ⟨d_0', e0', h⟩ := asL_el h
          obtain ⟨t3', e3', h⟩ := asL_el h
          obtain ⟨t5', e5', h⟩ := asP_el h
          obtain ⟨t6', e6', h⟩ := asI_el h
          obtain ⟨t7', e7', h⟩ := asI_el h
          rw [hnx] at h
          obtain ⟨hu, hI2, hμ⟩ := h
          obtain ⟨rfl, rfl, rfl⟩ := hu
          exact ⟨(t6', t7'), ⟨e6', e7', e0', e3', e5'⟩, hI2, hμ⟩
    · intro ρ w h
      obtain ⟨t5, e5, h⟩ := asP_el h
      refine reroot e5 ?_
      exact pt_sound hmix _ (Eq.mp (by kernel_rfl) h)

/-! trove/trovelaw1.BinReads -/
def trovelaw1_BinReads.j4  (Q : Value → World → Prop) (w : World) : Prop :=
  Q (.bool true) w

def trovelaw1_BinReads.j7 (i_1 : Sl) (t5 : (Option Addr)) (t6 : (Option Addr)) (t7 : Int) (Q : Value → World → Prop) (nx1 : Sl → (Option Addr) → (Option Addr) → Int → World → Prop) (w : World) : Prop :=
  lt (IntKind.i64.wrap (t7 + 1)) fun x1 =>
  nx1 i_1 t5 t6 x1 w

def trovelaw1_BinReads.j9 (i_1 : Sl) (t5 : (Option Addr)) (t6 : (Option Addr)) (t7 : Int) (t8 : Int) (t9 : Int) (Q : Value → World → Prop) (nx1 : Sl → (Option Addr) → (Option Addr) → Int → World → Prop) (w : World) : Prop :=
  lt (World.drew w) fun w2 =>
  br ((t8 : Int) != t9) (
  ((Q (.bool false) w2) ∧ (
  Q (.bool false) w2)) ∧ (
  (Q (.bool false) w2) ∧ (
  Q (.bool false) w2))) (
  Calls Try.prog 82 ⟨[.pointer t5]⟩ w2 fun e3 w4 =>
  ∃ r5 : Int, e3 = .returned (.int .i64 r5) ∧
  Calls Try.prog 88 ⟨[.pointer t6]⟩ w4 fun e6 w7 =>
  ∃ r8 : Int, e6 = .returned (.int .i64 r8) ∧
  br ((r5 : Int) != r8) (
  ((Q (.bool false) w7) ∧ (
  Q (.bool false) w7)) ∧ (
  (Q (.bool false) w7) ∧ (
  Q (.bool false) w7))) (
  nz t6 fun a9 =>
  (Calls Try.prog 83 ⟨[.pointer t5]⟩ w7 fun e10 w11 =>
  ∃ r12 : Int, e10 = .returned (.int .i64 r12) ∧
  ldI .i64 w11 (Addr.add a9 1) fun x13 =>
  br ((r12 : Int) != x13) (
  (Q (.bool false) w11) ∧ (
  Q (.bool false) w11)) (
  nz t6 fun a14 =>
  (Calls Try.prog 81 ⟨[.pointer t5]⟩ w11 fun e15 w16 =>
  ∃ r17 : Int, e15 = .returned (.int .i64 r17) ∧
  ldI .i64 w16 (Addr.add a14 2) fun x18 =>
  br ((r17 : Int) != x18) (
  Q (.bool false) w16) (
  trovelaw1_BinReads.j7 i_1 t5 t6 t7 Q nx1 w16)) ∧ (
  ldI .i64 w11 (Addr.add a14 2) fun x19 =>
  Calls Try.prog 81 ⟨[.pointer t5]⟩ w11 fun e20 w21 =>
  ∃ r22 : Int, e20 = .returned (.int .i64 r22) ∧
  br ((r22 : Int) != x19) (
  Q (.bool false) w21) (
  trovelaw1_BinReads.j7 i_1 t5 t6 t7 Q nx1 w21)))) ∧ (
  ldI .i64 w7 (Addr.add a9 1) fun x23 =>
  Calls Try.prog 83 ⟨[.pointer t5]⟩ w7 fun e24 w25 =>
  ∃ r26 : Int, e24 = .returned (.int .i64 r26) ∧
  br ((r26 : Int) != x23) (
  (Q (.bool false) w25) ∧ (
  Q (.bool false) w25)) (
  nz t6 fun a27 =>
  (Calls Try.prog 81 ⟨[.pointer t5]⟩ w25 fun e28 w29 =>
  ∃ r30 : Int, e28 = .returned (.int .i64 r30) ∧
  ldI .i64 w29 (Addr.add a27 2) fun x31 =>
  br ((r30 : Int) != x31) (
  Q (.bool false) w29) (
  trovelaw1_BinReads.j7 i_1 t5 t6 t7 Q nx1 w29)) ∧ (
  ldI .i64 w25 (Addr.add a27 2) fun x32 =>
  Calls Try.prog 81 ⟨[.pointer t5]⟩ w25 fun e33 w34 =>
  ∃ r35 : Int, e33 = .returned (.int .i64 r35) ∧
  br ((r35 : Int) != x32) (
  Q (.bool false) w34) (
  trovelaw1_BinReads.j7 i_1 t5 t6 t7 Q nx1 w34))))))

def trovelaw1_BinReads.j8 (i_1 : Sl) (t5 : (Option Addr)) (t6 : (Option Addr)) (t7 : Int) (t8 : Int) (Q : Value → World → Prop) (nx1 : Sl → (Option Addr) → (Option Addr) → Int → World → Prop) (w : World) : Prop :=
  ixS i_1.a i_1.len t7 2 fun a36 =>
  ldI .i64 w (Addr.add a36 0) fun x37 =>
  br ((x37 : Int) == 1) (
  Calls Try.prog 84 ⟨[.pointer t5]⟩ w fun e38 w39 =>
  ∃ r40 : Int, e38 = .returned (.int .i64 r40) ∧
  Calls Try.prog 85 ⟨[.pointer t6, .int .i64 1]⟩ w39 fun e41 w42 =>
  ∃ r43 : Int, e41 = .returned (.int .i64 r43) ∧
  trovelaw1_BinReads.j9 i_1 t5 t6 t7 r40 r43 Q nx1 w42) (
  br ((x37 : Int) == 2) (
  Calls Try.prog 78 ⟨[.pointer t5]⟩ w fun e44 w45 =>
  ∃ r46 : Int, e44 = .returned (.int .i64 r46) ∧
  Calls Try.prog 85 ⟨[.pointer t6, .int .i64 2]⟩ w45 fun e47 w48 =>
  ∃ r49 : Int, e47 = .returned (.int .i64 r49) ∧
  trovelaw1_BinReads.j9 i_1 t5 t6 t7 r46 r49 Q nx1 w48) (
  br ((x37 : Int) == 4) (
  Calls Try.prog 79 ⟨[.pointer t5]⟩ w fun e50 w51 =>
  ∃ r52 : Int, e50 = .returned (.int .i64 r52) ∧
  Calls Try.prog 85 ⟨[.pointer t6, .int .i64 4]⟩ w51 fun e53 w54 =>
  ∃ r55 : Int, e53 = .returned (.int .i64 r55) ∧
  trovelaw1_BinReads.j9 i_1 t5 t6 t7 r52 r55 Q nx1 w54) (
  br ((x37 : Int) == 8) (
  Calls Try.prog 80 ⟨[.pointer t5]⟩ w fun e56 w57 =>
  ∃ r58 : Int, e56 = .returned (.int .i64 r58) ∧
  Calls Try.prog 85 ⟨[.pointer t6, .int .i64 8]⟩ w57 fun e59 w60 =>
  ∃ r61 : Int, e59 = .returned (.int .i64 r61) ∧
  trovelaw1_BinReads.j9 i_1 t5 t6 t7 r58 r61 Q nx1 w60) (
  lt (World.drew w) fun w62 =>
  ixS i_1.a i_1.len t7 2 fun a63 =>
  ldI .i64 w62 (Addr.add a63 1) fun x64 =>
  ixS i_1.a i_1.len t7 2 fun a65 =>
  (Calls Try.prog 86 ⟨[.pointer t5, .int .i64 x64]⟩ w62 fun e66 w67 =>
  ∃ r68 : Sl, e66 = .returned (.slice r68.a r68.len r68.cap) ∧
  (btS w67 r68.a r68.len fun x69 =>
  ldI .i64 w67 (Addr.add a65 1) fun x70 =>
  Calls Try.prog 87 ⟨[.pointer t6, .int .i64 x70]⟩ w67 fun e71 w72 =>
  ∃ r73 : Sl, e71 = .returned (.slice r73.a r73.len r73.cap) ∧
  btS w72 r73.a r73.len fun x74 =>
  br (!(ByteArray.toList x69 == ByteArray.toList x74)) (
  Q (.bool false) w72) (
  trovelaw1_BinReads.j9 i_1 t5 t6 t7 t8 0 Q nx1 w72)) ∧ (
  ldI .i64 w67 (Addr.add a65 1) fun x75 =>
  (btS w67 r68.a r68.len fun x76 =>
  Calls Try.prog 87 ⟨[.pointer t6, .int .i64 x75]⟩ w67 fun e77 w78 =>
  ∃ r79 : Sl, e77 = .returned (.slice r79.a r79.len r79.cap) ∧
  btS w78 r79.a r79.len fun x80 =>
  br (!(ByteArray.toList x76 == ByteArray.toList x80)) (
  Q (.bool false) w78) (
  trovelaw1_BinReads.j9 i_1 t5 t6 t7 t8 0 Q nx1 w78)) ∧ (
  Calls Try.prog 87 ⟨[.pointer t6, .int .i64 x75]⟩ w67 fun e81 w82 =>
  ∃ r83 : Sl, e81 = .returned (.slice r83.a r83.len r83.cap) ∧
  (btS w82 r68.a r68.len fun x84 =>
  btS w82 r83.a r83.len fun x85 =>
  br (!(ByteArray.toList x84 == ByteArray.toList x85)) (
  Q (.bool false) w82) (
  trovelaw1_BinReads.j9 i_1 t5 t6 t7 t8 0 Q nx1 w82)) ∧ (
  btS w82 r83.a r83.len fun x86 =>
  btS w82 r68.a r68.len fun x87 =>
  br (!(ByteArray.toList x87 == ByteArray.toList x86)) (
  Q (.bool false) w82) (
  trovelaw1_BinReads.j9 i_1 t5 t6 t7 t8 0 Q nx1 w82))))) ∧ (
  ldI .i64 w62 (Addr.add a65 1) fun x88 =>
  Calls Try.prog 86 ⟨[.pointer t5, .int .i64 x64]⟩ w62 fun e89 w90 =>
  ∃ r91 : Sl, e89 = .returned (.slice r91.a r91.len r91.cap) ∧
  (btS w90 r91.a r91.len fun x92 =>
  Calls Try.prog 87 ⟨[.pointer t6, .int .i64 x88]⟩ w90 fun e93 w94 =>
  ∃ r95 : Sl, e93 = .returned (.slice r95.a r95.len r95.cap) ∧
  btS w94 r95.a r95.len fun x96 =>
  br (!(ByteArray.toList x92 == ByteArray.toList x96)) (
  Q (.bool false) w94) (
  trovelaw1_BinReads.j9 i_1 t5 t6 t7 t8 0 Q nx1 w94)) ∧ (
  Calls Try.prog 87 ⟨[.pointer t6, .int .i64 x88]⟩ w90 fun e97 w98 =>
  ∃ r99 : Sl, e97 = .returned (.slice r99.a r99.len r99.cap) ∧
  (btS w98 r91.a r91.len fun x100 =>
  btS w98 r99.a r99.len fun x101 =>
  br (!(ByteArray.toList x100 == ByteArray.toList x101)) (
  Q (.bool false) w98) (
  trovelaw1_BinReads.j9 i_1 t5 t6 t7 t8 0 Q nx1 w98)) ∧ (
  btS w98 r99.a r99.len fun x102 =>
  btS w98 r91.a r91.len fun x103 =>
  br (!(ByteArray.toList x103 == ByteArray.toList x102)) (
  Q (.bool false) w98) (
  trovelaw1_BinReads.j9 i_1 t5 t6 t7 t8 0 Q nx1 w98))))))))

def trovelaw1_BinReads.j6 (i_1 : Sl) (t5 : (Option Addr)) (t6 : (Option Addr)) (t7 : Int) (Q : Value → World → Prop) (nx1 : Sl → (Option Addr) → (Option Addr) → Int → World → Prop) (w : World) : Prop :=
  trovelaw1_BinReads.j8 i_1 t5 t6 t7 0 Q nx1 w

def trovelaw1_BinReads.b1 (i_1 : Sl) (t5 : (Option Addr)) (t6 : (Option Addr)) (t7 : Int) (Q : Value → World → Prop) (nx1 : Sl → (Option Addr) → (Option Addr) → Int → World → Prop) (w : World) : Prop :=
  br (decide ((t7 : Int) < ((i_1.len : Nat) : Int))) (
  trovelaw1_BinReads.j6 i_1 t5 t6 t7 Q nx1 w) (
  trovelaw1_BinReads.j4 Q w)

def trovelaw1_BinReads.l1 (i_1 : Sl) (t5 : (Option Addr)) (t6 : (Option Addr)) (t7 : Int) (Q : Value → World → Prop) (w : World) : Prop :=
  ∃ (I : Int → World → Prop) (μ : Int → World → Nat), I t7 w ∧ ∀ t7 : Int, ∀ w : World, I t7 w → trovelaw1_BinReads.b1 i_1 t5 t6 t7 Q (fun i_1' t5' t6' t7' w' => (i_1' = i_1 ∧ t5' = t5 ∧ t6' = t6) ∧ I t7' w' ∧ μ t7' w' < μ t7 w) w

def trovelaw1_BinReads.j5 (i_1 : Sl) (t5 : (Option Addr)) (t6 : (Option Addr)) (t7 : Int) (Q : Value → World → Prop) (w : World) : Prop :=
  trovelaw1_BinReads.l1 i_1 t5 t6 t7 Q w

def trovelaw1_BinReads.j3 (i_1 : Sl) (t5 : (Option Addr)) (t6 : (Option Addr)) (Q : Value → World → Prop) (w : World) : Prop :=
  trovelaw1_BinReads.j5 i_1 t5 t6 0 Q w

def trovelaw1_BinReads.j2 (d_0 : Sl) (i_1 : Sl) (Q : Value → World → Prop) (w : World) : Prop :=
  Calls Try.prog 77 ⟨[.slice d_0.a d_0.len d_0.cap]⟩ w fun e104 w105 =>
  ∃ r106 : (Option Addr), e104 = .returned (.pointer r106) ∧
  lt (⟨World.heapSize w105, 0, none⟩ : Addr) fun a107 =>
  lt (World.alloc w105 (.cells (⟨[.slice d_0.a d_0.len d_0.cap, .int .i64 0, .int .i64 0]⟩ : Array Value) 87)) fun w108 =>
  trovelaw1_BinReads.j3 i_1 r106 (some a107) Q w108

def trovelaw1_BinReads.j1 (d_0 : Sl) (i_1 : Sl) (Q : Value → World → Prop) (w : World) : Prop :=
  Calls Try.prog 73 ⟨[]⟩ w fun e109 w110 =>
  ∃ r111 : Bool, e109 = .returned (.bool r111) ∧
  br (!r111) (
  Q (.bool false) w110) (
  br (decide ((((d_0.len : Nat) : Int) : Int) > 2000)) (
  Q (.bool true) w110) (
  br (decide ((((i_1.len : Nat) : Int) : Int) > 200)) (
  Q (.bool true) w110) (
  trovelaw1_BinReads.j2 d_0 i_1 Q w110)))

def trovelaw1_BinReads (d_0 : Sl) (i_1 : Sl) (Q : Value → World → Prop) (w : World) : Prop :=
  trovelaw1_BinReads.j1 d_0 i_1 Q w

theorem trovelaw1_BinReads.ok (d_0 : Sl) (i_1 : Sl) (Q : Value → World → Prop) (w : World) (h : trovelaw1_BinReads d_0 i_1 Q w) : Calls Try.prog 16 ⟨[.slice d_0.a d_0.len d_0.cap, .slice i_1.a i_1.len i_1.cap]⟩ w (Ret Q) := by
  refine calls_of_wpc [.tmp 4] Try.func16 rfl rfl rfl rfl ?_
  refine wpc_seq (fun ρ w => asL (ρ 0) fun d_0 => asL (ρ 1) fun i_1 => trovelaw1_BinReads.j1 d_0 i_1 Q w) ?_ ?_
  · skip
    exact pt_sound hmix _ (Eq.mp (by kernel_rfl) h)
  · intro ρ w h
    obtain ⟨d_0, e0, h⟩ := asL_el h
    obtain ⟨i_1, e1, h⟩ := asL_el h
    refine reroot e0 (reroot (upd_other e1 rfl) ?_)
    refine wpc_pre2 hmix (fun ρ w => asL (ρ 0) fun d_0 => asL (ρ 1) fun i_1 => trovelaw1_BinReads.j2 d_0 i_1 Q w) (Eq.mp (by kernel_rfl) h) ?_
    intro ρ w h
    obtain ⟨d_0, e0, h⟩ := asL_el h
    obtain ⟨i_1, e1, h⟩ := asL_el h
    refine reroot e0 (reroot (upd_other e1 rfl) ?_)
    refine wpc_pre2 hmix (fun ρ w => asL (ρ 1) fun i_1 => asP (ρ 5) fun t5 => asP (ρ 6) fun t6 => trovelaw1_BinReads.j3 i_1 t5 t6 Q w) (Eq.mp (by kernel_rfl) h) ?_
    intro ρ w h
    obtain ⟨i_1, e1, h⟩ := asL_el h
    obtain ⟨t5, e5, h⟩ := asP_el h
    obtain ⟨t6, e6, h⟩ := asP_el h
    refine reroot e1 (reroot (upd_other e5 rfl) (reroot (upd_other (upd_other e6 rfl) rfl) ?_))
    refine wpc_seq (fun ρ w =>  trovelaw1_BinReads.j4  Q w) ?_ ?_
    · skip
      refine wpc_seq (fun ρ w => asL (ρ 1) fun i_1 => asP (ρ 5) fun t5 => asP (ρ 6) fun t6 => asI .i64 (ρ 7) fun t7 => trovelaw1_BinReads.j5 i_1 t5 t6 t7 Q w) ?_ ?_
      · skip
        exact pt_sound hmix _ (Eq.mp (by kernel_rfl) h)
      · intro ρ w h
        obtain ⟨i_1, e1, h⟩ := asL_el h
        obtain ⟨t5, e5, h⟩ := asP_el h
        obtain ⟨t6, e6, h⟩ := asP_el h
        obtain ⟨t7, e7, h⟩ := asI_el h
        refine reroot e1 (reroot (upd_other e5 rfl) (reroot (upd_other (upd_other e6 rfl) rfl) (reroot (upd_other (upd_other (upd_other e7 rfl) rfl) rfl) ?_)))
        refine wpc_block ?_
        obtain ⟨I, μ, hI, hr⟩ := h
        refine wpc_loopS (α := Int) (fun s ρ => ρ 7 = .int .i64 s ∧ ρ 1 = .slice i_1.a i_1.len i_1.cap ∧ ρ 5 = .pointer t5 ∧ ρ 6 = .pointer t6) (fun s w => I s w) (fun s w => μ s w) t7 ⟨rfl, rfl, rfl, rfl⟩ hI ?_
        rintro t7 ρ w ⟨e7, e1, e5, e6⟩ hI
        have h := hr t7 w hI
        clear hr
        obtain ⟨nx1, hnx⟩ : ∃ nx : Sl → (Option Addr) → (Option Addr) → Int → World → Prop, nx = (fun i_1' t5' t6' t7' w' => (i_1' = i_1 ∧ t5' = t5 ∧ t6' = t6) ∧ I t7' w' ∧ μ t7' w' < μ t7 w) := ⟨_, rfl⟩
        rw [← hnx] at h
        refine wpc_norm (M := fun ρ w => asL (ρ 1) fun i_1 => asP (ρ 5) fun t5 => asP (ρ 6) fun t6 => asI .i64 (ρ 7) fun t7 => nx1 i_1 t5 t6 t7 w) ?_ (fun ρ w h => ?_)
        · skip
          refine reroot e1 (reroot (upd_other e5 rfl) (reroot (upd_other (upd_other e6 rfl) rfl) (reroot (upd_other (upd_other (upd_other e7 rfl) rfl) rfl) ?_)))
          refine wpc_seq (fun ρ w => asL (ρ 1) fun i_1 => asP (ρ 5) fun t5 => asP (ρ 6) fun t6 => asI .i64 (ρ 7) fun t7 => trovelaw1_BinReads.j6 i_1 t5 t6 t7 Q nx1 w) ?_ ?_
          · skip
            exact pt_sound hmix _ (Eq.mp (by kernel_rfl) h)
          · intro ρ w h
            obtain ⟨i_1, e1, h⟩ := asL_el h
            obtain ⟨t5, e5, h⟩ := asP_el h
            obtain ⟨t6, e6, h⟩ := asP_el h
            obtain ⟨t7, e7, h⟩ := asI_el h
            refine reroot e1 (reroot (upd_other e5 rfl) (reroot (upd_other (upd_other e6 rfl) rfl) (reroot (upd_other (upd_other (upd_other e7 rfl) rfl) rfl) ?_)))
            refine wpc_seq (fun ρ w => asL (ρ 1) fun i_1 => asP (ρ 5) fun t5 => asP (ρ 6) fun t6 => asI .i64 (ρ 7) fun t7 => trovelaw1_BinReads.j7 i_1 t5 t6 t7 Q nx1 w) ?_ ?_
            · skip
              refine wpc_block ?_
              refine wpc_seq (fun ρ w => asL (ρ 1) fun i_1 => asP (ρ 5) fun t5 => asP (ρ 6) fun t6 => asI .i64 (ρ 7) fun t7 => asI .i64 (ρ 8) fun t8 => trovelaw1_BinReads.j8 i_1 t5 t6 t7 t8 Q nx1 w) ?_ ?_
              · skip
                exact pt_sound hmix _ (Eq.mp (by kernel_rfl) h)
              · intro ρ w h
                obtain ⟨i_1, e1, h⟩ := asL_el h
                obtain ⟨t5, e5, h⟩ := asP_el h
                obtain ⟨t6, e6, h⟩ := asP_el h
                obtain ⟨t7, e7, h⟩ := asI_el h
                obtain ⟨t8, e8, h⟩ := asI_el h
                refine reroot e1 (reroot (upd_other e5 rfl) (reroot (upd_other (upd_other e6 rfl) rfl) (reroot (upd_other (upd_other (upd_other e7 rfl) rfl) rfl) (reroot (upd_other (upd_other (upd_other (upd_other e8 rfl) rfl) rfl) rfl) ?_))))
                refine wpc_pre2 hmix (fun ρ w => asL (ρ 1) fun i_1 => asP (ρ 5) fun t5 => asP (ρ 6) fun t6 => asI .i64 (ρ 7) fun t7 => asI .i64 (ρ 8) fun t8 => asI .i64 (ρ 9) fun t9 => trovelaw1_BinReads.j9 i_1 t5 t6 t7 t8 t9 Q nx1 w) (Eq.mp (by kernel_rfl) h) ?_
                intro ρ w h
                obtain ⟨i_1, e1, h⟩ := asL_el h
                obtain ⟨t5, e5, h⟩ := asP_el h
                obtain ⟨t6, e6, h⟩ := asP_el h
                obtain ⟨t7, e7, h⟩ := asI_el h
                obtain ⟨t8, e8, h⟩ := asI_el h
                obtain ⟨t9, e9, h⟩ := asI_el h
                refine reroot e1 (reroot (upd_other e5 rfl) (reroot (upd_other (upd_other e6 rfl) rfl) (reroot (upd_other (upd_other (upd_other e7 rfl) rfl) rfl) (reroot (upd_other (upd_other (upd_other (upd_other e8 rfl) rfl) rfl) rfl) (reroot (upd_other (upd_other (upd_other (upd_other (upd_other e9 rfl) rfl) rfl) rfl) rfl) ?_)))))
                exact pt_sound hmix _ (Eq.mp (by kernel_rfl) h)
            · intro ρ w h
              obtain ⟨i_1, e1, h⟩ := asL_el h
              obtain ⟨t5, e5, h⟩ := asP_el h
              obtain ⟨t6, e6, h⟩ := asP_el h
              obtain ⟨t7, e7, h⟩ := asI_el h
              refine reroot e1 (reroot (upd_other e5 rfl) (reroot (upd_other (upd_other e6 rfl) rfl) (reroot (upd_other (upd_other (upd_other e7 rfl) rfl) rfl) ?_)))
              exact pt_sound hmix _ (Eq.mp (by kernel_rfl) h)
        · skip
          obtain ⟨i_1', e1', h⟩ := asL_el h
          obtain ⟨t5', e5', h⟩ := asP_el h
          obtain ⟨t6', e6', h⟩ := asP_el h
          obtain ⟨t7', e7', h⟩ := asI_el h
          rw [hnx] at h
          obtain ⟨hu, hI2, hμ⟩ := h
          obtain ⟨rfl, rfl, rfl⟩ := hu
          exact ⟨t7', ⟨e7', e1', e5', e6'⟩, hI2, hμ⟩
    · intro ρ w h
      exact pt_sound hmix _ (Eq.mp (by kernel_rfl) h)

/-! trove/trovelaw1.BinShort -/
def trovelaw1_BinShort.j4 (t5 : Sl) (t6 : Sl) (t7 : Sl) (t8 : Sl) (Q : Value → World → Prop) (w : World) : Prop :=
  Calls Try.prog 91 ⟨[.slice t5.a t5.len t5.cap, .slice t6.a t6.len t6.cap]⟩ w fun e1 w2 =>
  ∃ r3 : Bool, e1 = .returned (.bool r3) ∧
  br (!r3) (
  Calls Try.prog 91 ⟨[.slice t6.a t6.len t6.cap, .slice t5.a t5.len t5.cap]⟩ w2 fun e4 w5 =>
  ∃ r6 : Bool, e4 = .returned (.bool r6) ∧
  br (!r6) (
  Calls Try.prog 91 ⟨[.slice t7.a t7.len t7.cap, .slice t8.a t8.len t8.cap]⟩ w5 fun e7 w8 =>
  ∃ r9 : Bool, e7 = .returned (.bool r9) ∧
  br (!r9) (
  Calls Try.prog 91 ⟨[.slice t8.a t8.len t8.cap, .slice t7.a t7.len t7.cap]⟩ w8 fun e10 w11 =>
  ∃ r12 : Bool, e10 = .returned (.bool r12) ∧
  Q (.bool (!r12)) w11) (
  Q (.bool false) w8)) (
  Q (.bool false) w5)) (
  Q (.bool false) w2)

def trovelaw1_BinShort.j3 (d_0 : Int) (i_1 : Int) (t5 : Sl) (t6 : Sl) (t7 : Sl) (Q : Value → World → Prop) (w : World) : Prop :=
  Calls Try.prog 90 ⟨[.slice none 0 0, .int .i64 i_1]⟩ w fun e13 w14 =>
  ∃ r15 : Sl, e13 = .returned (.slice r15.a r15.len r15.cap) ∧
  br (decide ((d_0 : Int) < i_1)) (
  br (decide ((((t5.len : Nat) : Int) : Int) > ((t6.len : Nat) : Int))) (
  Q (.bool false) w14) (
  br (decide ((((t7.len : Nat) : Int) : Int) > ((r15.len : Nat) : Int))) (
  Q (.bool false) w14) (
  trovelaw1_BinShort.j4 t5 t6 t7 r15 Q w14))) (
  trovelaw1_BinShort.j4 t5 t6 t7 r15 Q w14)

def trovelaw1_BinShort.j2 (d_0 : Int) (i_1 : Int) (t5 : Sl) (Q : Value → World → Prop) (w : World) : Prop :=
  Calls Try.prog 89 ⟨[.slice none 0 0, .int .i64 i_1]⟩ w fun e16 w17 =>
  ∃ r18 : Sl, e16 = .returned (.slice r18.a r18.len r18.cap) ∧
  Calls Try.prog 90 ⟨[.slice none 0 0, .int .i64 d_0]⟩ w17 fun e19 w20 =>
  ∃ r21 : Sl, e19 = .returned (.slice r21.a r21.len r21.cap) ∧
  trovelaw1_BinShort.j3 d_0 i_1 t5 r18 r21 Q w20

def trovelaw1_BinShort.j1 (d_0 : Int) (i_1 : Int) (Q : Value → World → Prop) (w : World) : Prop :=
  br (decide ((d_0 : Int) < 0)) (
  Q (.bool true) w) (
  br (decide ((i_1 : Int) < 0)) (
  Q (.bool true) w) (
  br ((d_0 : Int) == i_1) (
  Q (.bool true) w) (
  Calls Try.prog 89 ⟨[.slice none 0 0, .int .i64 d_0]⟩ w fun e22 w23 =>
  ∃ r24 : Sl, e22 = .returned (.slice r24.a r24.len r24.cap) ∧
  trovelaw1_BinShort.j2 d_0 i_1 r24 Q w23)))

def trovelaw1_BinShort (d_0 : Int) (i_1 : Int) (Q : Value → World → Prop) (w : World) : Prop :=
  Calls Try.prog 73 ⟨[]⟩ w fun e25 w26 =>
  ∃ r27 : Bool, e25 = .returned (.bool r27) ∧
  br (!r27) (
  Q (.bool false) w26) (
  trovelaw1_BinShort.j1 d_0 i_1 Q w26)

theorem trovelaw1_BinShort.ok (d_0 : Int) (i_1 : Int) (Q : Value → World → Prop) (w : World) (h : trovelaw1_BinShort d_0 i_1 Q w) : Calls Try.prog 17 ⟨[.int .i64 d_0, .int .i64 i_1]⟩ w (Ret Q) := by
  refine calls_of_wpc [.tmp 4] Try.func17 rfl rfl rfl rfl ?_
  refine wpc_pre2 hmix (fun ρ w => asI .i64 (ρ 0) fun d_0 => asI .i64 (ρ 1) fun i_1 => trovelaw1_BinShort.j1 d_0 i_1 Q w) (Eq.mp (by kernel_rfl) h) ?_
  intro ρ w h
  obtain ⟨d_0, e0, h⟩ := asI_el h
  obtain ⟨i_1, e1, h⟩ := asI_el h
  refine reroot e0 (reroot (upd_other e1 rfl) ?_)
  refine wpc_pre2 hmix (fun ρ w => asI .i64 (ρ 0) fun d_0 => asI .i64 (ρ 1) fun i_1 => asL (ρ 5) fun t5 => trovelaw1_BinShort.j2 d_0 i_1 t5 Q w) (Eq.mp (by kernel_rfl) h) ?_
  intro ρ w h
  obtain ⟨d_0, e0, h⟩ := asI_el h
  obtain ⟨i_1, e1, h⟩ := asI_el h
  obtain ⟨t5, e5, h⟩ := asL_el h
  refine reroot e0 (reroot (upd_other e1 rfl) (reroot (upd_other (upd_other e5 rfl) rfl) ?_))
  refine wpc_pre2 hmix (fun ρ w => asI .i64 (ρ 0) fun d_0 => asI .i64 (ρ 1) fun i_1 => asL (ρ 5) fun t5 => asL (ρ 6) fun t6 => asL (ρ 7) fun t7 => trovelaw1_BinShort.j3 d_0 i_1 t5 t6 t7 Q w) (Eq.mp (by kernel_rfl) h) ?_
  intro ρ w h
  obtain ⟨d_0, e0, h⟩ := asI_el h
  obtain ⟨i_1, e1, h⟩ := asI_el h
  obtain ⟨t5, e5, h⟩ := asL_el h
  obtain ⟨t6, e6, h⟩ := asL_el h
  obtain ⟨t7, e7, h⟩ := asL_el h
  refine reroot e0 (reroot (upd_other e1 rfl) (reroot (upd_other (upd_other e5 rfl) rfl) (reroot (upd_other (upd_other (upd_other e6 rfl) rfl) rfl) (reroot (upd_other (upd_other (upd_other (upd_other e7 rfl) rfl) rfl) rfl) ?_))))
  refine wpc_pre2 hmix (fun ρ w => asL (ρ 5) fun t5 => asL (ρ 6) fun t6 => asL (ρ 7) fun t7 => asL (ρ 8) fun t8 => trovelaw1_BinShort.j4 t5 t6 t7 t8 Q w) (Eq.mp (by kernel_rfl) h) ?_
  intro ρ w h
  obtain ⟨t5, e5, h⟩ := asL_el h
  obtain ⟨t6, e6, h⟩ := asL_el h
  obtain ⟨t7, e7, h⟩ := asL_el h
  obtain ⟨t8, e8, h⟩ := asL_el h
  refine reroot e5 (reroot (upd_other e6 rfl) (reroot (upd_other (upd_other e7 rfl) rfl) (reroot (upd_other (upd_other (upd_other e8 rfl) rfl) rfl) ?_)))
  exact pt_sound hmix _ (Eq.mp (by kernel_rfl) h)

/-! trove/trovelaw1.BinTails -/
def trovelaw1_BinTails (d_0 : Int) (i_1 : Sl) (t2 : Int) (Q : Value → World → Prop) (w : World) : Prop :=
  Calls Try.prog 73 ⟨[]⟩ w fun e1 w2 =>
  ∃ r3 : Bool, e1 = .returned (.bool r3) ∧
  br (!r3) (
  Q (.bool false) w2) (
  br (decide ((d_0 : Int) < 0)) (
  Q (.bool true) w2) (
  br (decide ((d_0 : Int) > 36028797018963968)) (
  Q (.bool true) w2) (
  br (decide ((((i_1.len : Nat) : Int) : Int) > 200)) (
  Q (.bool true) w2) (
  br (decide ((t2 : Int) < 0)) (
  Q (.bool true) w2) (
  Calls Try.prog 90 ⟨[.slice none 0 0, .int .i64 d_0]⟩ w2 fun e4 w5 =>
  ∃ r6 : Sl, e4 = .returned (.slice r6.a r6.len r6.cap) ∧
  Calls Try.prog 89 ⟨[.slice none 0 0, .int .i64 d_0]⟩ w5 fun e7 w8 =>
  ∃ r9 : Sl, e7 = .returned (.slice r9.a r9.len r9.cap) ∧
  lt (⟨World.heapSize w8, 0, none⟩ : Addr) fun a10 =>
  lt (World.alloc w8 (.cells ⟨[]⟩ 5)) fun w11 =>
  rdO w11 r6.a (r6.len * 1) fun c12 =>
  apK Try.prog 5 w11 (some a10) 0 0 r6.len c12 fun s13 w14 =>
  rdO w14 i_1.a (i_1.len * 1) fun c15 =>
  apK Try.prog 5 w14 s13.a s13.len s13.cap i_1.len c15 fun s16 w17 =>
  Calls Try.prog 92 ⟨[.slice s16.a s16.len s16.cap]⟩ w17 fun e18 w19 =>
  ∃ r20 : Int, ∃ r21 : Int, ∃ r22 : Int, e18 = .returned (.tuple ⟨[.int .i64 r20, .int .i64 r21, .int .i64 r22]⟩) ∧
  lt (⟨World.heapSize w19, 0, none⟩ : Addr) fun a23 =>
  lt (World.alloc w19 (.cells ⟨[]⟩ 5)) fun w24 =>
  rdO w24 r9.a (r9.len * 1) fun c25 =>
  apK Try.prog 5 w24 (some a23) 0 0 r9.len c25 fun s26 w27 =>
  rdO w27 i_1.a (i_1.len * 1) fun c28 =>
  apK Try.prog 5 w27 s26.a s26.len s26.cap i_1.len c28 fun s29 w30 =>
  Calls Try.prog 93 ⟨[.slice s29.a s29.len s29.cap]⟩ w30 fun e31 w32 =>
  ∃ r33 : Int, ∃ r34 : Int, ∃ r35 : Int, e31 = .returned (.tuple ⟨[.int .i64 r33, .int .i64 r34, .int .i64 r35]⟩) ∧
  br ((r20 : Int) != d_0) (
  Q (.bool false) w32) (
  br ((r21 : Int) != ((r6.len : Nat) : Int)) (
  Q (.bool false) w32) (
  br ((r22 : Int) != 0) (
  Q (.bool false) w32) (
  br ((r33 : Int) != d_0) (
  Q (.bool false) w32) (
  br ((r34 : Int) != ((r9.len : Nat) : Int)) (
  Q (.bool false) w32) (
  br ((r35 : Int) != 0) (
  Q (.bool false) w32) (
  (((r6.len : Nat) : Int) : Int) ≠ 0 ∧
  lt (Int.tmod t2 ((r6.len : Nat) : Int)) fun x36 =>
  bd x36 r6.cap fun n37 =>
  lt (⟨cutA r6.a r6.cap 0 1, n37 - 0, r6.cap - 0⟩ : Sl) fun s38 =>
  Calls Try.prog 92 ⟨[.slice s38.a s38.len s38.cap]⟩ w32 fun e39 w40 =>
  ∃ r41 : Int, ∃ r42 : Int, ∃ r43 : Int, e39 = .returned (.tuple ⟨[.int .i64 r41, .int .i64 r42, .int .i64 r43]⟩) ∧
  (((r9.len : Nat) : Int) : Int) ≠ 0 ∧
  lt (Int.tmod t2 ((r9.len : Nat) : Int)) fun x44 =>
  bd x44 r9.cap fun n45 =>
  lt (⟨cutA r9.a r9.cap 0 1, n45 - 0, r9.cap - 0⟩ : Sl) fun s46 =>
  Calls Try.prog 93 ⟨[.slice s46.a s46.len s46.cap]⟩ w40 fun e47 w48 =>
  ∃ r49 : Int, ∃ r50 : Int, ∃ r51 : Int, e47 = .returned (.tuple ⟨[.int .i64 r49, .int .i64 r50, .int .i64 r51]⟩) ∧
  br ((r43 : Int) == 3) (
  Q (.bool ((r51 : Int) == 3)) w48) (
  Q (.bool false) w48))))))))))))

theorem trovelaw1_BinTails.ok (d_0 : Int) (i_1 : Sl) (t2 : Int) (Q : Value → World → Prop) (w : World) (h : trovelaw1_BinTails d_0 i_1 t2 Q w) : Calls Try.prog 18 ⟨[.int .i64 d_0, .slice i_1.a i_1.len i_1.cap, .int .i64 t2]⟩ w (Ret Q) := by
  refine calls_of_wpc [.tmp 6] Try.func18 rfl rfl rfl rfl ?_
  exact pt_sound hmix _ (Eq.mp (by kernel_rfl) h)

end Go.Proofs.Ytkajimndclhgaaa
