/- PRINTED BY gen.py (own work): what calls come to, and the proofs of it. -/
import Derived.Test.YtkajimndclhgaaaVcJ
import Derived.Test.YtkajimndclhgaaaProg
namespace Go.Proofs.Ytkajimndclhgaaa
open Go Go.Proofs
set_option linter.unusedVariables false
set_option maxRecDepth 100000

/-! trove/troveref3.left -/
def troveref3_left (w_0 : Int) (n_1 : Int) (Q : Value → World → Prop) (w : World) : Prop :=
  (0 : Int) ≤ n_1 ∧
  lt (shlV .u32 w_0 n_1) fun x1 =>
  lt (IntKind.u64.wrap (32 - n_1)) fun x2 =>
  (0 : Int) ≤ x2 ∧
  lt (shrV .u32 w_0 x2) fun x3 =>
  lt (orV .u32 x1 x3) fun x4 =>
  Q (.int .u32 x4) w

theorem troveref3_left.ok (w_0 : Int) (n_1 : Int) (Q : Value → World → Prop) (w : World) (h : troveref3_left w_0 n_1 Q w) : Calls Try.prog 153 ⟨[.int .u32 w_0, .int .u64 n_1]⟩ w (Ret Q) := by
  refine calls_of_wpc [.tmp 4] Try.func153 rfl rfl rfl rfl ?_
  exact pt_sound hmix _ (Eq.mp (by kernel_rfl) h)

/-! trove/troveref3.word -/
def troveref3_word (b_0 : Sl) (Q : Value → World → Prop) (w : World) : Prop :=
  lt (World.drew w) fun w1 =>
  ixS b_0.a b_0.len 0 1 fun a2 =>
  ldI .u8 w1 a2 fun x3 =>
  lt (IntKind.u32.wrap x3) fun x4 =>
  (0 : Int) ≤ 24 ∧
  lt (shlV .u32 x4 24) fun x5 =>
  ixS b_0.a b_0.len 1 1 fun a6 =>
  ldI .u8 w1 a6 fun x7 =>
  lt (IntKind.u32.wrap x7) fun x8 =>
  (0 : Int) ≤ 16 ∧
  lt (shlV .u32 x8 16) fun x9 =>
  lt (orV .u32 x5 x9) fun x10 =>
  ixS b_0.a b_0.len 2 1 fun a11 =>
  ldI .u8 w1 a11 fun x12 =>
  lt (IntKind.u32.wrap x12) fun x13 =>
  (0 : Int) ≤ 8 ∧
  lt (shlV .u32 x13 8) fun x14 =>
  lt (orV .u32 x10 x14) fun x15 =>
  ixS b_0.a b_0.len 3 1 fun a16 =>
  ldI .u8 w1 a16 fun x17 =>
  lt (IntKind.u32.wrap x17) fun x18 =>
  lt (orV .u32 x15 x18) fun x19 =>
  Q (.int .u32 x19) w1

theorem troveref3_word.ok (b_0 : Sl) (Q : Value → World → Prop) (w : World) (h : troveref3_word b_0 Q w) : Calls Try.prog 152 ⟨[.slice b_0.a b_0.len b_0.cap]⟩ w (Ret Q) := by
  refine calls_of_wpc [.tmp 2] Try.func152 rfl rfl rfl rfl ?_
  exact pt_sound hmix _ (Eq.mp (by kernel_rfl) h)

/-! trove/troveref3.block -/
def troveref3_block.j6 (t2 : Addr) (t4 : Addr) (Q : Value → World → Prop) (w : World) : Prop :=
  ldA w t2 5 fun c1 =>
  (c1).size = 5 ∧
  stA w t4 c1 fun w2 =>
  ldA w2 t4 5 fun c3 =>
  Q (.agg c3) w2

def troveref3_block.b1 (t2 : Addr) (t4 : Addr) (t8 : Addr) (t13 : Int) (Q : Value → World → Prop) (nx1 : Addr → Addr → Addr → Int → World → Prop) (w : World) : Prop :=
  br (decide ((t13 : Int) < 5)) (
  lt (World.drew w) fun w4 =>
  ixA t2 5 t13 1 fun a5 =>
  ldI .u32 w4 a5 fun x6 =>
  ixA t8 5 t13 1 fun a7 =>
  ldI .u32 w4 a7 fun x8 =>
  lt (IntKind.u32.wrap (x6 + x8)) fun x9 =>
  ixA t2 5 t13 1 fun a10 =>
  st w4 a10 (.int .u32 x9) fun w11 =>
  lt (IntKind.i64.wrap (t13 + 1)) fun x12 =>
  nx1 t2 t4 t8 x12 w11) (
  troveref3_block.j6 t2 t4 Q w)

def troveref3_block.l1 (t2 : Addr) (t4 : Addr) (t8 : Addr) (t13 : Int) (Q : Value → World → Prop) (w : World) : Prop :=
  ∃ (I : Int → World → Prop) (μ : Int → World → Nat), I t13 w ∧ ∀ t13 : Int, ∀ w : World, I t13 w → troveref3_block.b1 t2 t4 t8 t13 Q (fun t2' t4' t8' t13' w' => (t2' = t2 ∧ t4' = t4 ∧ t8' = t8) ∧ I t13' w' ∧ μ t13' w' < μ t13 w) w

def troveref3_block.j7 (t2 : Addr) (t4 : Addr) (t8 : Addr) (t13 : Int) (Q : Value → World → Prop) (w : World) : Prop :=
  troveref3_block.l1 t2 t4 t8 t13 Q w

def troveref3_block.j5 (t2 : Addr) (t4 : Addr) (t8 : Addr) (Q : Value → World → Prop) (w : World) : Prop :=
  troveref3_block.j7 t2 t4 t8 0 Q w

def troveref3_block.j10 (t2 : Addr) (t4 : Addr) (t5 : Sl) (t8 : Addr) (t9 : Int) (Q : Value → World → Prop) (nx2 : Addr → Addr → Sl → Addr → Int → World → Prop) (w : World) : Prop :=
  lt (IntKind.i64.wrap (t9 + 1)) fun x13 =>
  nx2 t2 t4 t5 t8 x13 w

def troveref3_block.j13 (t2 : Addr) (t4 : Addr) (t5 : Sl) (t8 : Addr) (t9 : Int) (t12 : Int) (Q : Value → World → Prop) (nx2 : Addr → Addr → Sl → Addr → Int → World → Prop) (w : World) : Prop :=
  ixA t8 5 3 1 fun a14 =>
  ldI .u32 w a14 fun x15 =>
  ixA t8 5 4 1 fun a16 =>
  st w a16 (.int .u32 x15) fun w17 =>
  ixA t8 5 2 1 fun a18 =>
  ldI .u32 w17 a18 fun x19 =>
  ixA t8 5 3 1 fun a20 =>
  st w17 a20 (.int .u32 x19) fun w21 =>
  ixA t8 5 1 1 fun a22 =>
  ldI .u32 w21 a22 fun x23 =>
  Calls Try.prog 153 ⟨[.int .u32 x23, .int .u64 30]⟩ w21 fun e24 w25 =>
  ∃ r26 : Int, e24 = .returned (.int .u32 r26) ∧
  ixA t8 5 2 1 fun a27 =>
  st w25 a27 (.int .u32 r26) fun w28 =>
  ixA t8 5 0 1 fun a29 =>
  ldI .u32 w28 a29 fun x30 =>
  ixA t8 5 1 1 fun a31 =>
  st w28 a31 (.int .u32 x30) fun w32 =>
  ixA t8 5 0 1 fun a33 =>
  st w32 a33 (.int .u32 t12) fun w34 =>
  troveref3_block.j10 t2 t4 t5 t8 t9 Q nx2 w34

def troveref3_block.j12 (t2 : Addr) (t4 : Addr) (t5 : Sl) (t8 : Addr) (t9 : Int) (t10 : Int) (t11 : Int) (Q : Value → World → Prop) (nx2 : Addr → Addr → Sl → Addr → Int → World → Prop) (w : World) : Prop :=
  lt (World.drew w) fun w35 =>
  ixA t8 5 0 1 fun a36 =>
  ldI .u32 w35 a36 fun x37 =>
  ixA t8 5 4 1 fun a38 =>
  ixS t5.a t5.len t9 1 fun a39 =>
  (Calls Try.prog 153 ⟨[.int .u32 x37, .int .u64 5]⟩ w35 fun e40 w41 =>
  ∃ r42 : Int, e40 = .returned (.int .u32 r42) ∧
  lt (IntKind.u32.wrap (r42 + t10)) fun x43 =>
  (ldI .u32 w41 a38 fun x44 =>
  lt (IntKind.u32.wrap (x43 + x44)) fun x45 =>
  lt (IntKind.u32.wrap (x45 + t11)) fun x46 =>
  ldI .u32 w41 a39 fun x47 =>
  lt (IntKind.u32.wrap (x46 + x47)) fun x48 =>
  troveref3_block.j13 t2 t4 t5 t8 t9 x48 Q nx2 w41) ∧ (
  ldI .u32 w41 a39 fun x49 =>
  ldI .u32 w41 a38 fun x50 =>
  lt (IntKind.u32.wrap (x43 + x50)) fun x51 =>
  lt (IntKind.u32.wrap (x51 + t11)) fun x52 =>
  lt (IntKind.u32.wrap (x52 + x49)) fun x53 =>
  troveref3_block.j13 t2 t4 t5 t8 t9 x53 Q nx2 w41)) ∧ (
  ldI .u32 w35 a38 fun x54 =>
  (Calls Try.prog 153 ⟨[.int .u32 x37, .int .u64 5]⟩ w35 fun e55 w56 =>
  ∃ r57 : Int, e55 = .returned (.int .u32 r57) ∧
  lt (IntKind.u32.wrap (r57 + t10)) fun x58 =>
  lt (IntKind.u32.wrap (x58 + x54)) fun x59 =>
  lt (IntKind.u32.wrap (x59 + t11)) fun x60 =>
  ldI .u32 w56 a39 fun x61 =>
  lt (IntKind.u32.wrap (x60 + x61)) fun x62 =>
  troveref3_block.j13 t2 t4 t5 t8 t9 x62 Q nx2 w56) ∧ (
  ldI .u32 w35 a39 fun x63 =>
  Calls Try.prog 153 ⟨[.int .u32 x37, .int .u64 5]⟩ w35 fun e64 w65 =>
  ∃ r66 : Int, e64 = .returned (.int .u32 r66) ∧
  lt (IntKind.u32.wrap (r66 + t10)) fun x67 =>
  lt (IntKind.u32.wrap (x67 + x54)) fun x68 =>
  lt (IntKind.u32.wrap (x68 + t11)) fun x69 =>
  lt (IntKind.u32.wrap (x69 + x63)) fun x70 =>
  troveref3_block.j13 t2 t4 t5 t8 t9 x70 Q nx2 w65)) ∧ (
  ldI .u32 w35 a39 fun x71 =>
  (Calls Try.prog 153 ⟨[.int .u32 x37, .int .u64 5]⟩ w35 fun e72 w73 =>
  ∃ r74 : Int, e72 = .returned (.int .u32 r74) ∧
  lt (IntKind.u32.wrap (r74 + t10)) fun x75 =>
  ldI .u32 w73 a38 fun x76 =>
  lt (IntKind.u32.wrap (x75 + x76)) fun x77 =>
  lt (IntKind.u32.wrap (x77 + t11)) fun x78 =>
  lt (IntKind.u32.wrap (x78 + x71)) fun x79 =>
  troveref3_block.j13 t2 t4 t5 t8 t9 x79 Q nx2 w73) ∧ (
  ldI .u32 w35 a38 fun x80 =>
  Calls Try.prog 153 ⟨[.int .u32 x37, .int .u64 5]⟩ w35 fun e81 w82 =>
  ∃ r83 : Int, e81 = .returned (.int .u32 r83) ∧
  lt (IntKind.u32.wrap (r83 + t10)) fun x84 =>
  lt (IntKind.u32.wrap (x84 + x80)) fun x85 =>
  lt (IntKind.u32.wrap (x85 + t11)) fun x86 =>
  lt (IntKind.u32.wrap (x86 + x71)) fun x87 =>
  troveref3_block.j13 t2 t4 t5 t8 t9 x87 Q nx2 w82))

def troveref3_block.j11 (t2 : Addr) (t4 : Addr) (t5 : Sl) (t8 : Addr) (t9 : Int) (Q : Value → World → Prop) (nx2 : Addr → Addr → Sl → Addr → Int → World → Prop) (w : World) : Prop :=
  br (decide ((t9 : Int) < 20)) (
  ixA t8 5 1 1 fun a88 =>
  ldI .u32 w a88 fun x89 =>
  ixA t8 5 2 1 fun a90 =>
  ldI .u32 w a90 fun x91 =>
  lt (andV .u32 x89 x91) fun x92 =>
  ixA t8 5 1 1 fun a93 =>
  ldI .u32 w a93 fun x94 =>
  lt (xorV .u32 (if IntKind.signed .u32 then -1 else IntKind.max .u32) x94) fun x95 =>
  ixA t8 5 3 1 fun a96 =>
  ldI .u32 w a96 fun x97 =>
  lt (andV .u32 x95 x97) fun x98 =>
  lt (orV .u32 x92 x98) fun x99 =>
  troveref3_block.j12 t2 t4 t5 t8 t9 x99 1518500249 Q nx2 w) (
  br (decide ((t9 : Int) < 40)) (
  ixA t8 5 1 1 fun a100 =>
  ldI .u32 w a100 fun x101 =>
  ixA t8 5 2 1 fun a102 =>
  ldI .u32 w a102 fun x103 =>
  lt (xorV .u32 x101 x103) fun x104 =>
  ixA t8 5 3 1 fun a105 =>
  ldI .u32 w a105 fun x106 =>
  lt (xorV .u32 x104 x106) fun x107 =>
  troveref3_block.j12 t2 t4 t5 t8 t9 x107 1859775393 Q nx2 w) (
  br (decide ((t9 : Int) < 60)) (
  ixA t8 5 1 1 fun a108 =>
  ldI .u32 w a108 fun x109 =>
  ixA t8 5 2 1 fun a110 =>
  ldI .u32 w a110 fun x111 =>
  lt (andV .u32 x109 x111) fun x112 =>
  ixA t8 5 1 1 fun a113 =>
  ldI .u32 w a113 fun x114 =>
  ixA t8 5 3 1 fun a115 =>
  ldI .u32 w a115 fun x116 =>
  lt (andV .u32 x114 x116) fun x117 =>
  lt (orV .u32 x112 x117) fun x118 =>
  ixA t8 5 2 1 fun a119 =>
  ldI .u32 w a119 fun x120 =>
  ixA t8 5 3 1 fun a121 =>
  ldI .u32 w a121 fun x122 =>
  lt (andV .u32 x120 x122) fun x123 =>
  lt (orV .u32 x118 x123) fun x124 =>
  troveref3_block.j12 t2 t4 t5 t8 t9 x124 2400959708 Q nx2 w) (
  ixA t8 5 1 1 fun a125 =>
  ldI .u32 w a125 fun x126 =>
  ixA t8 5 2 1 fun a127 =>
  ldI .u32 w a127 fun x128 =>
  lt (xorV .u32 x126 x128) fun x129 =>
  ixA t8 5 3 1 fun a130 =>
  ldI .u32 w a130 fun x131 =>
  lt (xorV .u32 x129 x131) fun x132 =>
  troveref3_block.j12 t2 t4 t5 t8 t9 x132 3395469782 Q nx2 w)))

def troveref3_block.j9 (t2 : Addr) (t4 : Addr) (t5 : Sl) (t8 : Addr) (t9 : Int) (Q : Value → World → Prop) (nx2 : Addr → Addr → Sl → Addr → Int → World → Prop) (w : World) : Prop :=
  troveref3_block.j11 t2 t4 t5 t8 t9 Q nx2 w

def troveref3_block.b2 (t2 : Addr) (t4 : Addr) (t5 : Sl) (t8 : Addr) (t9 : Int) (Q : Value → World → Prop) (nx2 : Addr → Addr → Sl → Addr → Int → World → Prop) (w : World) : Prop :=
  br (decide ((t9 : Int) < 80)) (
  troveref3_block.j9 t2 t4 t5 t8 t9 Q nx2 w) (
  troveref3_block.j5 t2 t4 t8 Q w)

def troveref3_block.l2 (t2 : Addr) (t4 : Addr) (t5 : Sl) (t8 : Addr) (t9 : Int) (Q : Value → World → Prop) (w : World) : Prop :=
  ∃ (I : Int → World → Prop) (μ : Int → World → Nat), I t9 w ∧ ∀ t9 : Int, ∀ w : World, I t9 w → troveref3_block.b2 t2 t4 t5 t8 t9 Q (fun t2' t4' t5' t8' t9' w' => (t2' = t2 ∧ t4' = t4 ∧ t5' = t5 ∧ t8' = t8) ∧ I t9' w' ∧ μ t9' w' < μ t9 w) w

def troveref3_block.j8 (t2 : Addr) (t4 : Addr) (t5 : Sl) (t8 : Addr) (t9 : Int) (Q : Value → World → Prop) (w : World) : Prop :=
  troveref3_block.l2 t2 t4 t5 t8 t9 Q w

def troveref3_block.j4 (t2 : Addr) (t4 : Addr) (t5 : Sl) (t8 : Addr) (Q : Value → World → Prop) (w : World) : Prop :=
  troveref3_block.j8 t2 t4 t5 t8 0 Q w

def troveref3_block.j3 (t2 : Addr) (t4 : Addr) (t5 : Sl) (Q : Value → World → Prop) (w : World) : Prop :=
  ldA w t2 5 fun c133 =>
  lt (⟨World.heapSize w, 0, none⟩ : Addr) fun a134 =>
  lt (World.alloc w (.cells (zc Try.prog 152) 152)) fun w135 =>
  (c133).size = 5 ∧
  stA w135 a134 c133 fun w136 =>
  troveref3_block.j4 t2 t4 t5 a134 Q w136

def troveref3_block.b3 (t2 : Addr) (t4 : Addr) (t5 : Sl) (t7 : Int) (Q : Value → World → Prop) (nx3 : Addr → Addr → Sl → Int → World → Prop) (w : World) : Prop :=
  br (decide ((t7 : Int) < 80)) (
  lt (World.drew w) fun w137 =>
  lt (IntKind.i64.wrap (t7 - 3)) fun x138 =>
  ixS t5.a t5.len x138 1 fun a139 =>
  ldI .u32 w137 a139 fun x140 =>
  lt (IntKind.i64.wrap (t7 - 8)) fun x141 =>
  ixS t5.a t5.len x141 1 fun a142 =>
  ldI .u32 w137 a142 fun x143 =>
  lt (xorV .u32 x140 x143) fun x144 =>
  lt (IntKind.i64.wrap (t7 - 14)) fun x145 =>
  ixS t5.a t5.len x145 1 fun a146 =>
  ldI .u32 w137 a146 fun x147 =>
  lt (xorV .u32 x144 x147) fun x148 =>
  lt (IntKind.i64.wrap (t7 - 16)) fun x149 =>
  ixS t5.a t5.len x149 1 fun a150 =>
  ldI .u32 w137 a150 fun x151 =>
  lt (xorV .u32 x148 x151) fun x152 =>
  Calls Try.prog 153 ⟨[.int .u32 x152, .int .u64 1]⟩ w137 fun e153 w154 =>
  ∃ r155 : Int, e153 = .returned (.int .u32 r155) ∧
  ixS t5.a t5.len t7 1 fun a156 =>
  st w154 a156 (.int .u32 r155) fun w157 =>
  lt (IntKind.i64.wrap (t7 + 1)) fun x158 =>
  nx3 t2 t4 t5 x158 w157) (
  troveref3_block.j3 t2 t4 t5 Q w)

def troveref3_block.l3 (t2 : Addr) (t4 : Addr) (t5 : Sl) (t7 : Int) (Q : Value → World → Prop) (w : World) : Prop :=
  ∃ (I : Int → World → Prop) (μ : Int → World → Nat), I t7 w ∧ ∀ t7 : Int, ∀ w : World, I t7 w → troveref3_block.b3 t2 t4 t5 t7 Q (fun t2' t4' t5' t7' w' => (t2' = t2 ∧ t4' = t4 ∧ t5' = t5) ∧ I t7' w' ∧ μ t7' w' < μ t7 w) w

def troveref3_block.j14 (t2 : Addr) (t4 : Addr) (t5 : Sl) (t7 : Int) (Q : Value → World → Prop) (w : World) : Prop :=
  troveref3_block.l3 t2 t4 t5 t7 Q w

def troveref3_block.j2 (t2 : Addr) (t4 : Addr) (t5 : Sl) (Q : Value → World → Prop) (w : World) : Prop :=
  troveref3_block.j14 t2 t4 t5 16 Q w

def troveref3_block.b4 (i_1 : Sl) (t2 : Addr) (t4 : Addr) (t5 : Sl) (t6 : Int) (Q : Value → World → Prop) (nx4 : Sl → Addr → Addr → Sl → Int → World → Prop) (w : World) : Prop :=
  br (decide ((t6 : Int) < 16)) (
  lt (IntKind.i64.wrap (4 * t6)) fun x159 =>
  bd x159 i_1.len fun n160 =>
  lt (⟨cutA i_1.a i_1.cap n160 1, i_1.len - n160, i_1.cap - n160⟩ : Sl) fun s161 =>
  Calls Try.prog 152 ⟨[.slice s161.a s161.len s161.cap]⟩ w fun e162 w163 =>
  ∃ r164 : Int, e162 = .returned (.int .u32 r164) ∧
  ixS t5.a t5.len t6 1 fun a165 =>
  st w163 a165 (.int .u32 r164) fun w166 =>
  lt (IntKind.i64.wrap (t6 + 1)) fun x167 =>
  nx4 i_1 t2 t4 t5 x167 w166) (
  troveref3_block.j2 t2 t4 t5 Q w)

def troveref3_block.l4 (i_1 : Sl) (t2 : Addr) (t4 : Addr) (t5 : Sl) (t6 : Int) (Q : Value → World → Prop) (w : World) : Prop :=
  ∃ (I : Int → World → Prop) (μ : Int → World → Nat), I t6 w ∧ ∀ t6 : Int, ∀ w : World, I t6 w → troveref3_block.b4 i_1 t2 t4 t5 t6 Q (fun i_1' t2' t4' t5' t6' w' => (i_1' = i_1 ∧ t2' = t2 ∧ t4' = t4 ∧ t5' = t5) ∧ I t6' w' ∧ μ t6' w' < μ t6 w) w

def troveref3_block.j15 (i_1 : Sl) (t2 : Addr) (t4 : Addr) (t5 : Sl) (t6 : Int) (Q : Value → World → Prop) (w : World) : Prop :=
  troveref3_block.l4 i_1 t2 t4 t5 t6 Q w

def troveref3_block.j1 (i_1 : Sl) (t2 : Addr) (t4 : Addr) (t5 : Sl) (Q : Value → World → Prop) (w : World) : Prop :=
  troveref3_block.j15 i_1 t2 t4 t5 0 Q w

def troveref3_block (d_0 : (Array Value)) (i_1 : Sl) (Q : Value → World → Prop) (w : World) : Prop :=
  lt (⟨World.heapSize w, 0, none⟩ : Addr) fun a168 =>
  lt (World.alloc w (.cells d_0 152)) fun w169 =>
  lt (⟨World.heapSize w169, 0, none⟩ : Addr) fun a170 =>
  lt (World.alloc w169 (.cells (zc Try.prog 152) 152)) fun w171 =>
  mkK Try.prog 151 w171 80 80 fun s172 w173 =>
  troveref3_block.j1 i_1 a168 a170 s172 Q w173

theorem troveref3_block.ok (d_0 : (Array Value)) (i_1 : Sl) (Q : Value → World → Prop) (w : World) (h : troveref3_block d_0 i_1 Q w) : Calls Try.prog 126 ⟨[.agg d_0, .slice i_1.a i_1.len i_1.cap]⟩ w (Ret Q) := by
  refine calls_of_wpc [.cell 4 152] Try.func126 rfl rfl rfl rfl ?_
  refine wpc_pre2 hmix (fun ρ w => asL (ρ 1) fun i_1 => asA (ρ 2) fun t2 => asA (ρ 4) fun t4 => asL (ρ 5) fun t5 => troveref3_block.j1 i_1 t2 t4 t5 Q w) (Eq.mp (by kernel_rfl) h) ?_
  intro ρ w h
  obtain ⟨i_1, e1, h⟩ := asL_el h
  obtain ⟨t2, e2, h⟩ := asA_el h
  obtain ⟨t4, e4, h⟩ := asA_el h
  obtain ⟨t5, e5, h⟩ := asL_el h
  refine reroot e1 (reroot (upd_other e2 rfl) (reroot (upd_other (upd_other e4 rfl) rfl) (reroot (upd_other (upd_other (upd_other e5 rfl) rfl) rfl) ?_)))
  refine wpc_seq (fun ρ w => asA (ρ 2) fun t2 => asA (ρ 4) fun t4 => asL (ρ 5) fun t5 => troveref3_block.j2 t2 t4 t5 Q w) ?_ ?_
  · skip
    refine wpc_seq (fun ρ w => asL (ρ 1) fun i_1 => asA (ρ 2) fun t2 => asA (ρ 4) fun t4 => asL (ρ 5) fun t5 => asI .i64 (ρ 6) fun t6 => troveref3_block.j15 i_1 t2 t4 t5 t6 Q w) ?_ ?_
    · skip
      exact pt_sound hmix _ (Eq.mp (by kernel_rfl) h)
    · intro ρ w h
      obtain ⟨i_1, e1, h⟩ := asL_el h
      obtain ⟨t2, e2, h⟩ := asA_el h
      obtain ⟨t4, e4, h⟩ := asA_el h
      obtain ⟨t5, e5, h⟩ := asL_el h
      obtain ⟨t6, e6, h⟩ := asI_el h
      refine reroot e1 (reroot (upd_other e2 rfl) (reroot (upd_other (upd_other e4 rfl) rfl) (reroot (upd_other (upd_other (upd_other e5 rfl) rfl) rfl) (reroot (upd_other (upd_other (upd_other (upd_other e6 rfl) rfl) rfl) rfl) ?_))))
      refine wpc_block ?_
      obtain ⟨I, μ, hI, hr⟩ := h
      refine wpc_loopS (α := Int) (fun s ρ => ρ 6 = .int .i64 s ∧ ρ 1 = .slice i_1.a i_1.len i_1.cap ∧ ρ 2 = .pointer (some t2) ∧ ρ 4 = .pointer (some t4) ∧ ρ 5 = .slice t5.a t5.len t5.cap) (fun s w => I s w) (fun s w => μ s w) t6 ⟨rfl, rfl, rfl, rfl, rfl⟩ hI ?_
      rintro t6 ρ w ⟨e6, e1, e2, e4, e5⟩ hI
      have h := hr t6 w hI
      clear hr
      obtain ⟨nx4, hnx⟩ : ∃ nx : Sl → Addr → Addr → Sl → Int → World → Prop, nx = (fun i_1' t2' t4' t5' t6' w' => (i_1' = i_1 ∧ t2' = t2 ∧ t4' = t4 ∧ t5' = t5) ∧ I t6' w' ∧ μ t6' w' < μ t6 w) := ⟨_, rfl⟩
      rw [← hnx] at h
      refine wpc_norm (M := fun ρ w => asL (ρ 1) fun i_1 => asA (ρ 2) fun t2 => asA (ρ 4) fun t4 => asL (ρ 5) fun t5 => asI .i64 (ρ 6) fun t6 => nx4 i_1 t2 t4 t5 t6 w) ?_ (fun ρ w h => ?_)
      · skip
        refine reroot e1 (reroot (upd_other e2 rfl) (reroot (upd_other (upd_other e4 rfl) rfl) (reroot (upd_other (upd_other (upd_other e5 rfl) rfl) rfl) (reroot (upd_other (upd_other (upd_other (upd_other e6 rfl) rfl) rfl) rfl) ?_))))
        exact pt_sound hmix _ (Eq.mp (by kernel_rfl) h)
      · skip
        obtain ⟨i_1', e1', h⟩ := asL_el h
        obtain ⟨t2', e2', h⟩ := asA_el h
        obtain ⟨t4', e4', h⟩ := asA_el h
        obtain ⟨t5', e5', h⟩ := asL_el h
        obtain ⟨t6', e6', h⟩ := asI_el h
        rw [hnx] at h
        obtain ⟨hu, hI2, hμ⟩ := h
        obtain ⟨rfl, rfl, rfl, rfl⟩ := hu
        exact ⟨t6', ⟨e6', e1', e2', e4', e5'⟩, hI2, hμ⟩
  · intro ρ w h
    obtain ⟨t2, e2, h⟩ := asA_el h
    obtain ⟨t4, e4, h⟩ := asA_el h
    obtain ⟨t5, e5, h⟩ := asL_el h
    refine reroot e2 (reroot (upd_other e4 rfl) (reroot (upd_other (upd_other e5 rfl) rfl) ?_))
    refine wpc_seq (fun ρ w => asA (ρ 2) fun t2 => asA (ρ 4) fun t4 => asL (ρ 5) fun t5 => troveref3_block.j3 t2 t4 t5 Q w) ?_ ?_
    · skip
      refine wpc_seq (fun ρ w => asA (ρ 2) fun t2 => asA (ρ 4) fun t4 => asL (ρ 5) fun t5 => asI .i64 (ρ 7) fun t7 => troveref3_block.j14 t2 t4 t5 t7 Q w) ?_ ?_
      · skip
        exact pt_sound hmix _ (Eq.mp (by kernel_rfl) h)
      · intro ρ w h
        obtain ⟨t2, e2, h⟩ := asA_el h
        obtain ⟨t4, e4, h⟩ := asA_el h
        obtain ⟨t5, e5, h⟩ := asL_el h
        obtain ⟨t7, e7, h⟩ := asI_el h
        refine reroot e2 (reroot (upd_other e4 rfl) (reroot (upd_other (upd_other e5 rfl) rfl) (reroot (upd_other (upd_other (upd_other e7 rfl) rfl) rfl) ?_)))
        refine wpc_block ?_
        obtain ⟨I, μ, hI, hr⟩ := h
        refine wpc_loopS (α := Int) (fun s ρ => ρ 7 = .int .i64 s ∧ ρ 2 = .pointer (some t2) ∧ ρ 4 = .pointer (some t4) ∧ ρ 5 = .slice t5.a t5.len t5.cap) (fun s w => I s w) (fun s w => μ s w) t7 ⟨rfl, rfl, rfl, rfl⟩ hI ?_
        rintro t7 ρ w ⟨e7, e2, e4, e5⟩ hI
        have h := hr t7 w hI
        clear hr
        obtain ⟨nx3, hnx⟩ : ∃ nx : Addr → Addr → Sl → Int → World → Prop, nx = (fun t2' t4' t5' t7' w' => (t2' = t2 ∧ t4' = t4 ∧ t5' = t5) ∧ I t7' w' ∧ μ t7' w' < μ t7 w) := ⟨_, rfl⟩
        rw [← hnx] at h
        refine wpc_norm (M := fun ρ w => asA (ρ 2) fun t2 => asA (ρ 4) fun t4 => asL (ρ 5) fun t5 => asI .i64 (ρ 7) fun t7 => nx3 t2 t4 t5 t7 w) ?_ (fun ρ w h => ?_)
        · skip
          refine reroot e2 (reroot (upd_other e4 rfl) (reroot (upd_other (upd_other e5 rfl) rfl) (reroot (upd_other (upd_other (upd_other e7 rfl) rfl) rfl) ?_)))
          exact pt_sound hmix _ (Eq.mp (by kernel_rfl) h)
        · skip
          obtain ⟨t2', e2', h⟩ := asA_el h
          obtain ⟨t4', e4', h⟩ := asA_el h
          obtain ⟨t5', e5', h⟩ := asL_el h
          obtain ⟨t7', e7', h⟩ := asI_el h
          rw [hnx] at h
          obtain ⟨hu, hI2, hμ⟩ := h
          obtain ⟨rfl, rfl, rfl⟩ := hu
          exact ⟨t7', ⟨e7', e2', e4', e5'⟩, hI2, hμ⟩
    · intro ρ w h
      obtain ⟨t2, e2, h⟩ := asA_el h
      obtain ⟨t4, e4, h⟩ := asA_el h
      obtain ⟨t5, e5, h⟩ := asL_el h
      refine reroot e2 (reroot (upd_other e4 rfl) (reroot (upd_other (upd_other e5 rfl) rfl) ?_))
      refine wpc_seq (fun ρ w => asA (ρ 2) fun t2 => asA (ρ 4) fun t4 => asL (ρ 5) fun t5 => asA (ρ 8) fun t8 => troveref3_block.j4 t2 t4 t5 t8 Q w) ?_ ?_
      · skip
        exact pt_sound hmix _ (Eq.mp (by kernel_rfl) h)
      · intro ρ w h
        obtain ⟨t2, e2, h⟩ := asA_el h
        obtain ⟨t4, e4, h⟩ := asA_el h
        obtain ⟨t5, e5, h⟩ := asL_el h
        obtain ⟨t8, e8, h⟩ := asA_el h
        refine reroot e2 (reroot (upd_other e4 rfl) (reroot (upd_other (upd_other e5 rfl) rfl) (reroot (upd_other (upd_other (upd_other e8 rfl) rfl) rfl) ?_)))
        refine wpc_seq (fun ρ w => asA (ρ 2) fun t2 => asA (ρ 4) fun t4 => asA (ρ 8) fun t8 => troveref3_block.j5 t2 t4 t8 Q w) ?_ ?_
        · skip
          refine wpc_seq (fun ρ w => asA (ρ 2) fun t2 => asA (ρ 4) fun t4 => asL (ρ 5) fun t5 => asA (ρ 8) fun t8 => asI .i64 (ρ 9) fun t9 => troveref3_block.j8 t2 t4 t5 t8 t9 Q w) ?_ ?_
          · skip
            exact pt_sound hmix _ (Eq.mp (by kernel_rfl) h)
          · intro ρ w h
            obtain ⟨t2, e2, h⟩ := asA_el h
            obtain ⟨t4, e4, h⟩ := asA_el h
            obtain ⟨t5, e5, h⟩ := asL_el h
            obtain ⟨t8, e8, h⟩ := asA_el h
            obtain ⟨t9, e9, h⟩ := asI_el h
            refine reroot e2 (reroot (upd_other e4 rfl) (reroot (upd_other (upd_other e5 rfl) rfl) (reroot (upd_other (upd_other (upd_other e8 rfl) rfl) rfl) (reroot (upd_other (upd_other (upd_other (upd_other e9 rfl) rfl) rfl) rfl) ?_))))
            refine wpc_block ?_
            obtain ⟨I, μ, hI, hr⟩ := h
            refine wpc_loopS (α := Int) (fun s ρ => ρ 9 = .int .i64 s ∧ ρ 2 = .pointer (some t2) ∧ ρ 4 = .pointer (some t4) ∧ ρ 5 = .slice t5.a t5.len t5.cap ∧ ρ 8 = .pointer (some t8)) (fun s w => I s w) (fun s w => μ s w) t9 ⟨rfl, rfl, rfl, rfl, rfl⟩ hI ?_
            rintro t9 ρ w ⟨e9, e2, e4, e5, e8⟩ hI
            have h := hr t9 w hI
            clear hr
            obtain ⟨nx2, hnx⟩ : ∃ nx : Addr → Addr → Sl → Addr → Int → World → Prop, nx = (fun t2' t4' t5' t8' t9' w' => (t2' = t2 ∧ t4' = t4 ∧ t5' = t5 ∧ t8' = t8) ∧ I t9' w' ∧ μ t9' w' < μ t9 w) := ⟨_, rfl⟩
            rw [← hnx] at h
            refine wpc_norm (M := fun ρ w => asA (ρ 2) fun t2 => asA (ρ 4) fun t4 => asL (ρ 5) fun t5 => asA (ρ 8) fun t8 => asI .i64 (ρ 9) fun t9 => nx2 t2 t4 t5 t8 t9 w) ?_ (fun ρ w h => ?_)
            · skip
              refine reroot e2 (reroot (upd_other e4 rfl) (reroot (upd_other (upd_other e5 rfl) rfl) (reroot (upd_other (upd_other (upd_other e8 rfl) rfl) rfl) (reroot (upd_other (upd_other (upd_other (upd_other e9 rfl) rfl) rfl) rfl) ?_))))
              refine wpc_seq (fun ρ w => asA (ρ 2) fun t2 => asA (ρ 4) fun t4 => asL (ρ 5) fun t5 => asA (ρ 8) fun t8 => asI .i64 (ρ 9) fun t9 => troveref3_block.j9 t2 t4 t5 t8 t9 Q nx2 w) ?_ ?_
              · skip
                exact pt_sound hmix _ (Eq.mp (by kernel_rfl) h)
              · intro ρ w h
                obtain ⟨t2, e2, h⟩ := asA_el h
                obtain ⟨t4, e4, h⟩ := asA_el h
                obtain ⟨t5, e5, h⟩ := asL_el h
                obtain ⟨t8, e8, h⟩ := asA_el h
                obtain ⟨t9, e9, h⟩ := asI_el h
                refine reroot e2 (reroot (upd_other e4 rfl) (reroot (upd_other (upd_other e5 rfl) rfl) (reroot (upd_other (upd_other (upd_other e8 rfl) rfl) rfl) (reroot (upd_other (upd_other (upd_other (upd_other e9 rfl) rfl) rfl) rfl) ?_))))
                refine wpc_seq (fun ρ w => asA (ρ 2) fun t2 => asA (ρ 4) fun t4 => asL (ρ 5) fun t5 => asA (ρ 8) fun t8 => asI .i64 (ρ 9) fun t9 => troveref3_block.j10 t2 t4 t5 t8 t9 Q nx2 w) ?_ ?_
                · skip
                  refine wpc_block ?_
                  refine wpc_seq (fun ρ w => asA (ρ 2) fun t2 => asA (ρ 4) fun t4 => asL (ρ 5) fun t5 => asA (ρ 8) fun t8 => asI .i64 (ρ 9) fun t9 => troveref3_block.j11 t2 t4 t5 t8 t9 Q nx2 w) ?_ ?_
                  · skip
                    exact pt_sound hmix _ (Eq.mp (by kernel_rfl) h)
                  · intro ρ w h
                    obtain ⟨t2, e2, h⟩ := asA_el h
                    obtain ⟨t4, e4, h⟩ := asA_el h
                    obtain ⟨t5, e5, h⟩ := asL_el h
                    obtain ⟨t8, e8, h⟩ := asA_el h
                    obtain ⟨t9, e9, h⟩ := asI_el h
                    refine reroot e2 (reroot (upd_other e4 rfl) (reroot (upd_other (upd_other e5 rfl) rfl) (reroot (upd_other (upd_other (upd_other e8 rfl) rfl) rfl) (reroot (upd_other (upd_other (upd_other (upd_other e9 rfl) rfl) rfl) rfl) ?_))))
                    refine wpc_pre2 hmix (fun ρ w => asA (ρ 2) fun t2 => asA (ρ 4) fun t4 => asL (ρ 5) fun t5 => asA (ρ 8) fun t8 => asI .i64 (ρ 9) fun t9 => asI .u32 (ρ 10) fun t10 => asI .u32 (ρ 11) fun t11 => troveref3_block.j12 t2 t4 t5 t8 t9 t10 t11 Q nx2 w) (Eq.mp (by kernel_rfl) h) ?_
                    intro ρ w h
                    obtain ⟨t2, e2, h⟩ := asA_el h
                    obtain ⟨t4, e4, h⟩ := asA_el h
                    obtain ⟨t5, e5, h⟩ := asL_el h
                    obtain ⟨t8, e8, h⟩ := asA_el h
                    obtain ⟨t9, e9, h⟩ := asI_el h
                    obtain ⟨t10, e10, h⟩ := asI_el h
                    obtain ⟨t11, e11, h⟩ := asI_el h
                    refine reroot e2 (reroot (upd_other e4 rfl) (reroot (upd_other (upd_other e5 rfl) rfl) (reroot (upd_other (upd_other (upd_other e8 rfl) rfl) rfl) (reroot (upd_other (upd_other (upd_other (upd_other e9 rfl) rfl) rfl) rfl) (reroot (upd_other (upd_other (upd_other (upd_other (upd_other e10 rfl) rfl) rfl) rfl) rfl) (reroot (upd_other (upd_other (upd_other (upd_other (upd_other (upd_other e11 rfl) rfl) rfl) rfl) rfl) rfl) ?_))))))
                    refine wpc_seq (fun ρ w => asA (ρ 2) fun t2 => asA (ρ 4) fun t4 => asL (ρ 5) fun t5 => asA (ρ 8) fun t8 => asI .i64 (ρ 9) fun t9 => asI .u32 (ρ 12) fun t12 => troveref3_block.j13 t2 t4 t5 t8 t9 t12 Q nx2 w) ?_ ?_
                    · skip
                      exact pt_sound hmix _ (Eq.mp (by kernel_rfl) h)
                    · intro ρ w h
                      obtain ⟨t2, e2, h⟩ := asA_el h
                      obtain ⟨t4, e4, h⟩ := asA_el h
                      obtain ⟨t5, e5, h⟩ := asL_el h
                      obtain ⟨t8, e8, h⟩ := asA_el h
                      obtain ⟨t9, e9, h⟩ := asI_el h
                      obtain ⟨t12, e12, h⟩ := asI_el h
                      refine reroot e2 (reroot (upd_other e4 rfl) (reroot (upd_other (upd_other e5 rfl) rfl) (reroot (upd_other (upd_other (upd_other e8 rfl) rfl) rfl) (reroot (upd_other (upd_other (upd_other (upd_other e9 rfl) rfl) rfl) rfl) (reroot (upd_other (upd_other (upd_other (upd_other (upd_other e12 rfl) rfl) rfl) rfl) rfl) ?_)))))
                      exact pt_sound hmix _ (Eq.mp (by kernel_rfl) h)
                · intro ρ w h
                  obtain ⟨t2, e2, h⟩ := asA_el h
                  obtain ⟨t4, e4, h⟩ := asA_el h
                  obtain ⟨t5, e5, h⟩ := asL_el h
                  obtain ⟨t8, e8, h⟩ := asA_el h
                  obtain ⟨t9, e9, h⟩ := asI_el h
                  refine reroot e2 (reroot (upd_other e4 rfl) (reroot (upd_other (upd_other e5 rfl) rfl) (reroot (upd_other (upd_other (upd_other e8 rfl) rfl) rfl) (reroot (upd_other (upd_other (upd_other (upd_other e9 rfl) rfl) rfl) rfl) ?_))))
                  exact pt_sound hmix _ (Eq.mp (by kernel_rfl) h)
            · skip
              obtain ⟨t2', e2', h⟩ := asA_el h
              obtain ⟨t4', e4', h⟩ := asA_el h
              obtain ⟨t5', e5', h⟩ := asL_el h
              obtain ⟨t8', e8', h⟩ := asA_el h
              obtain ⟨t9', e9', h⟩ := asI_el h
              rw [hnx] at h
              obtain ⟨hu, hI2, hμ⟩ := h
              obtain ⟨rfl, rfl, rfl, rfl⟩ := hu
              exact ⟨t9', ⟨e9', e2', e4', e5', e8'⟩, hI2, hμ⟩
        · intro ρ w h
          obtain ⟨t2, e2, h⟩ := asA_el h
          obtain ⟨t4, e4, h⟩ := asA_el h
          obtain ⟨t8, e8, h⟩ := asA_el h
          refine reroot e2 (reroot (upd_other e4 rfl) (reroot (upd_other (upd_other e8 rfl) rfl) ?_))
          refine wpc_seq (fun ρ w => asA (ρ 2) fun t2 => asA (ρ 4) fun t4 => troveref3_block.j6 t2 t4 Q w) ?_ ?_
          · skip
            refine wpc_seq (fun ρ w => asA (ρ 2) fun t2 => asA (ρ 4) fun t4 => asA (ρ 8) fun t8 => asI .i64 (ρ 13) fun t13 => troveref3_block.j7 t2 t4 t8 t13 Q w) ?_ ?_
            · skip
              exact pt_sound hmix _ (Eq.mp (by kernel_rfl) h)
            · intro ρ w h
              obtain ⟨t2, e2, h⟩ := asA_el h
              obtain ⟨t4, e4, h⟩ := asA_el h
              obtain ⟨t8, e8, h⟩ := asA_el h
              obtain ⟨t13, e13, h⟩ := asI_el h
              refine reroot e2 (reroot (upd_other e4 rfl) (reroot (upd_other (upd_other e8 rfl) rfl) (reroot (upd_other (upd_other (upd_other e13 rfl) rfl) rfl) ?_)))
              refine wpc_block ?_
              obtain ⟨I, μ, hI, hr⟩ := h
              refine wpc_loopS (α := Int) (fun s ρ => ρ 13 = .int .i64 s ∧ ρ 2 = .pointer (some t2) ∧ ρ 4 = .pointer (some t4) ∧ ρ 8 = .pointer (some t8)) (fun s w => I s w) (fun s w => μ s w) t13 ⟨rfl, rfl, rfl, rfl⟩ hI ?_
              rintro t13 ρ w ⟨e13, e2, e4, e8⟩ hI
              have h := hr t13 w hI
              clear hr
              obtain ⟨nx1, hnx⟩ : ∃ nx : Addr → Addr → Addr → Int → World → Prop, nx = (fun t2' t4' t8' t13' w' => (t2' = t2 ∧ t4' = t4 ∧ t8' = t8) ∧ I t13' w' ∧ μ t13' w' < μ t13 w) := ⟨_, rfl⟩
              rw [← hnx] at h
              refine wpc_norm (M := fun ρ w => asA (ρ 2) fun t2 => asA (ρ 4) fun t4 => asA (ρ 8) fun t8 => asI .i64 (ρ 13) fun t13 => nx1 t2 t4 t8 t13 w) ?_ (fun ρ w h => ?_)
              · skip
                refine reroot e2 (reroot (upd_other e4 rfl) (reroot (upd_other (upd_other e8 rfl) rfl) (reroot (upd_other (upd_other (upd_other e13 rfl) rfl) rfl) ?_)))
                exact pt_sound hmix _ (Eq.mp (by kernel_rfl) h)
              · skip
                obtain ⟨t2', e2', h⟩ := asA_el h
                obtain ⟨t4', e4', h⟩ := asA_el h
                obtain ⟨t8', e8', h⟩ := asA_el h
                obtain ⟨t13', e13', h⟩ := asI_el h
                rw [hnx] at h
                obtain ⟨hu, hI2, hμ⟩ := h
                obtain ⟨rfl, rfl, rfl⟩ := hu
                exact ⟨t13', ⟨e13', e2', e4', e8'⟩, hI2, hμ⟩
          · intro ρ w h
            obtain ⟨t2, e2, h⟩ := asA_el h
            obtain ⟨t4, e4, h⟩ := asA_el h
            refine reroot e2 (reroot (upd_other e4 rfl) ?_)
            exact pt_sound hmix _ (Eq.mp (by kernel_rfl) h)

/-! trove/troveref3.Sum -/
def troveref3_Sum.j9 (t2 : Addr) (t8 : Addr) (Q : Value → World → Prop) (w : World) : Prop :=
  ldA w t8 20 fun c1 =>
  (c1).size = 20 ∧
  stA w t2 c1 fun w2 =>
  ldA w2 t2 20 fun c3 =>
  Q (.agg c3) w2

def troveref3_Sum.b1 (t2 : Addr) (t6 : Addr) (t8 : Addr) (t9 : Int) (Q : Value → World → Prop) (nx1 : Addr → Addr → Addr → Int → World → Prop) (w : World) : Prop :=
  br (decide ((t9 : Int) < 20)) (
  (4 : Int) ≠ 0 ∧
  lt (IntKind.i64.wrap (Int.tdiv t9 4)) fun x4 =>
  ixA t6 5 x4 1 fun a5 =>
  ldI .u32 w a5 fun x6 =>
  (4 : Int) ≠ 0 ∧
  lt (Int.tmod t9 4) fun x7 =>
  lt (IntKind.u64.wrap x7) fun x8 =>
  lt (IntKind.u64.wrap (8 * x8)) fun x9 =>
  lt (IntKind.u64.wrap (24 - x9)) fun x10 =>
  (0 : Int) ≤ x10 ∧
  lt (shrV .u32 x6 x10) fun x11 =>
  lt (IntKind.u8.wrap x11) fun x12 =>
  ixA t8 20 t9 1 fun a13 =>
  st w a13 (.int .u8 x12) fun w14 =>
  lt (IntKind.i64.wrap (t9 + 1)) fun x15 =>
  nx1 t2 t6 t8 x15 w14) (
  troveref3_Sum.j9 t2 t8 Q w)

def troveref3_Sum.l1 (t2 : Addr) (t6 : Addr) (t8 : Addr) (t9 : Int) (Q : Value → World → Prop) (w : World) : Prop :=
  ∃ (I : Int → World → Prop) (μ : Int → World → Nat), I t9 w ∧ ∀ t9 : Int, ∀ w : World, I t9 w → troveref3_Sum.b1 t2 t6 t8 t9 Q (fun t2' t6' t8' t9' w' => (t2' = t2 ∧ t6' = t6 ∧ t8' = t8) ∧ I t9' w' ∧ μ t9' w' < μ t9 w) w

def troveref3_Sum.j10 (t2 : Addr) (t6 : Addr) (t8 : Addr) (t9 : Int) (Q : Value → World → Prop) (w : World) : Prop :=
  troveref3_Sum.l1 t2 t6 t8 t9 Q w

def troveref3_Sum.j8 (t2 : Addr) (t6 : Addr) (t8 : Addr) (Q : Value → World → Prop) (w : World) : Prop :=
  troveref3_Sum.j10 t2 t6 t8 0 Q w

def troveref3_Sum.j7 (t2 : Addr) (t6 : Addr) (Q : Value → World → Prop) (w : World) : Prop :=
  lt (⟨World.heapSize w, 0, none⟩ : Addr) fun a16 =>
  lt (World.alloc w (.cells (zc Try.prog 50) 50)) fun w17 =>
  troveref3_Sum.j8 t2 t6 a16 Q w17

def troveref3_Sum.b2 (t2 : Addr) (t3 : Sl) (t6 : Addr) (t7 : Int) (Q : Value → World → Prop) (nx2 : Addr → Sl → Addr → Int → World → Prop) (w : World) : Prop :=
  br (decide ((t7 : Int) < ((t3.len : Nat) : Int))) (
  lt (World.drew w) fun w18 =>
  ldA w18 t6 5 fun c19 =>
  lt (IntKind.i64.wrap (t7 + 64)) fun x20 =>
  bd x20 t3.cap fun n21 =>
  bd t7 n21 fun n22 =>
  lt (⟨cutA t3.a t3.cap n22 1, n21 - n22, t3.cap - n22⟩ : Sl) fun s23 =>
  Calls Try.prog 126 ⟨[.agg c19, .slice s23.a s23.len s23.cap]⟩ w18 fun e24 w25 =>
  ∃ r26 : (Array Value), e24 = .returned (.agg r26) ∧
  (r26).size = 5 ∧
  stA w25 t6 r26 fun w27 =>
  lt (IntKind.i64.wrap (t7 + 64)) fun x28 =>
  nx2 t2 t3 t6 x28 w27) (
  troveref3_Sum.j7 t2 t6 Q w)

def troveref3_Sum.l2 (t2 : Addr) (t3 : Sl) (t6 : Addr) (t7 : Int) (Q : Value → World → Prop) (w : World) : Prop :=
  ∃ (I : Int → World → Prop) (μ : Int → World → Nat), I t7 w ∧ ∀ t7 : Int, ∀ w : World, I t7 w → troveref3_Sum.b2 t2 t3 t6 t7 Q (fun t2' t3' t6' t7' w' => (t2' = t2 ∧ t3' = t3 ∧ t6' = t6) ∧ I t7' w' ∧ μ t7' w' < μ t7 w) w

def troveref3_Sum.j11 (t2 : Addr) (t3 : Sl) (t6 : Addr) (t7 : Int) (Q : Value → World → Prop) (w : World) : Prop :=
  troveref3_Sum.l2 t2 t3 t6 t7 Q w

def troveref3_Sum.j6 (t2 : Addr) (t3 : Sl) (t6 : Addr) (Q : Value → World → Prop) (w : World) : Prop :=
  troveref3_Sum.j11 t2 t3 t6 0 Q w

def troveref3_Sum.j5 (t2 : Addr) (t3 : Sl) (Q : Value → World → Prop) (w : World) : Prop :=
  lt (⟨World.heapSize w, 0, none⟩ : Addr) fun a29 =>
  lt (World.alloc w (.cells (zc Try.prog 152) 152)) fun w30 =>
  ((⟨[.int .u32 1732584193, .int .u32 4023233417, .int .u32 2562383102, .int .u32 271733878, .int .u32 3285377520]⟩ : Array Value)).size = 5 ∧
  stA w30 a29 (⟨[.int .u32 1732584193, .int .u32 4023233417, .int .u32 2562383102, .int .u32 271733878, .int .u32 3285377520]⟩ : Array Value) fun w31 =>
  troveref3_Sum.j6 t2 t3 a29 Q w31

def troveref3_Sum.b3 (t2 : Addr) (t4 : Int) (t3 : Sl) (t5 : Int) (Q : Value → World → Prop) (nx3 : Addr → Int → Sl → Int → World → Prop) (w : World) : Prop :=
  br (decide ((t5 : Int) ≥ 0)) (
  lt (IntKind.u64.wrap t5) fun x32 =>
  lt (IntKind.u64.wrap (8 * x32)) fun x33 =>
  (0 : Int) ≤ x33 ∧
  lt (shrV .u64 t4 x33) fun x34 =>
  lt (IntKind.u8.wrap x34) fun x35 =>
  lt (⟨World.heapSize w, 0, none⟩ : Addr) fun a36 =>
  lt (World.alloc w (.cells ⟨[.int .u8 x35]⟩ 5)) fun w37 =>
  rdO w37 (some a36) (1 * 1) fun c38 =>
  apK Try.prog 5 w37 t3.a t3.len t3.cap 1 c38 fun s39 w40 =>
  lt (IntKind.i64.wrap (t5 - 1)) fun x41 =>
  nx3 t2 t4 s39 x41 w40) (
  troveref3_Sum.j5 t2 t3 Q w)

def troveref3_Sum.l3 (t2 : Addr) (t4 : Int) (t3 : Sl) (t5 : Int) (Q : Value → World → Prop) (w : World) : Prop :=
  ∃ (I : Sl → Int → World → Prop) (μ : Sl → Int → World → Nat), I t3 t5 w ∧ ∀ t3 : Sl, ∀ t5 : Int, ∀ w : World, I t3 t5 w → troveref3_Sum.b3 t2 t4 t3 t5 Q (fun t2' t4' t3' t5' w' => (t2' = t2 ∧ t4' = t4) ∧ I t3' t5' w' ∧ μ t3' t5' w' < μ t3 t5 w) w

def troveref3_Sum.j12 (t2 : Addr) (t3 : Sl) (t4 : Int) (t5 : Int) (Q : Value → World → Prop) (w : World) : Prop :=
  troveref3_Sum.l3 t2 t4 t3 t5 Q w

def troveref3_Sum.j4 (t2 : Addr) (t3 : Sl) (t4 : Int) (Q : Value → World → Prop) (w : World) : Prop :=
  troveref3_Sum.j12 t2 t3 t4 7 Q w

def troveref3_Sum.j3 (d_0 : Sl) (t2 : Addr) (t3 : Sl) (Q : Value → World → Prop) (w : World) : Prop :=
  lt (IntKind.u64.wrap ((d_0.len : Nat) : Int)) fun x42 =>
  lt (IntKind.u64.wrap (x42 * 8)) fun x43 =>
  troveref3_Sum.j4 t2 t3 x43 Q w

def troveref3_Sum.b4 (d_0 : Sl) (t2 : Addr) (t3 : Sl) (Q : Value → World → Prop) (nx4 : Sl → Addr → Sl → World → Prop) (w : World) : Prop :=
  (64 : Int) ≠ 0 ∧
  lt (Int.tmod ((t3.len : Nat) : Int) 64) fun x44 =>
  br ((x44 : Int) != 56) (
  lt (⟨World.heapSize w, 0, none⟩ : Addr) fun a45 =>
  lt (World.alloc w (.cells ⟨[.int .u8 0]⟩ 5)) fun w46 =>
  rdO w46 (some a45) (1 * 1) fun c47 =>
  apK Try.prog 5 w46 t3.a t3.len t3.cap 1 c47 fun s48 w49 =>
  nx4 d_0 t2 s48 w49) (
  troveref3_Sum.j3 d_0 t2 t3 Q w)

def troveref3_Sum.l4 (d_0 : Sl) (t2 : Addr) (t3 : Sl) (Q : Value → World → Prop) (w : World) : Prop :=
  ∃ (I : Sl → World → Prop) (μ : Sl → World → Nat), I t3 w ∧ ∀ t3 : Sl, ∀ w : World, I t3 w → troveref3_Sum.b4 d_0 t2 t3 Q (fun d_0' t2' t3' w' => (d_0' = d_0 ∧ t2' = t2) ∧ I t3' w' ∧ μ t3' w' < μ t3 w) w

def troveref3_Sum.j2 (d_0 : Sl) (t2 : Addr) (t3 : Sl) (Q : Value → World → Prop) (w : World) : Prop :=
  troveref3_Sum.l4 d_0 t2 t3 Q w

def troveref3_Sum.j1 (d_0 : Sl) (t2 : Addr) (Q : Value → World → Prop) (w : World) : Prop :=
  lt (⟨World.heapSize w, 0, none⟩ : Addr) fun a50 =>
  lt (World.alloc w (.cells ⟨[]⟩ 5)) fun w51 =>
  rdO w51 d_0.a (d_0.len * 1) fun c52 =>
  apK Try.prog 5 w51 (some a50) 0 0 d_0.len c52 fun s53 w54 =>
  lt (⟨World.heapSize w54, 0, none⟩ : Addr) fun a55 =>
  lt (World.alloc w54 (.cells ⟨[.int .u8 128]⟩ 5)) fun w56 =>
  rdO w56 (some a55) (1 * 1) fun c57 =>
  apK Try.prog 5 w56 s53.a s53.len s53.cap 1 c57 fun s58 w59 =>
  troveref3_Sum.j2 d_0 t2 s58 Q w59

def troveref3_Sum (d_0 : Sl) (Q : Value → World → Prop) (w : World) : Prop :=
  lt (⟨World.heapSize w, 0, none⟩ : Addr) fun a60 =>
  lt (World.alloc w (.cells (zc Try.prog 50) 50)) fun w61 =>
  troveref3_Sum.j1 d_0 a60 Q w61

theorem troveref3_Sum.ok (d_0 : Sl) (Q : Value → World → Prop) (w : World) (h : troveref3_Sum d_0 Q w) : Calls Try.prog 58 ⟨[.slice d_0.a d_0.len d_0.cap]⟩ w (Ret Q) := by
  refine calls_of_wpc [.cell 2 50] Try.func58 rfl rfl rfl rfl ?_
  refine wpc_seq (fun ρ w => asL (ρ 0) fun d_0 => asA (ρ 2) fun t2 => troveref3_Sum.j1 d_0 t2 Q w) ?_ ?_
  · skip
    exact pt_sound hmix _ (Eq.mp (by kernel_rfl) h)
  · intro ρ w h
    obtain ⟨d_0, e0, h⟩ := asL_el h
    obtain ⟨t2, e2, h⟩ := asA_el h
    refine reroot e0 (reroot (upd_other e2 rfl) ?_)
    refine wpc_pre2 hmix (fun ρ w => asL (ρ 0) fun d_0 => asA (ρ 2) fun t2 => asL (ρ 3) fun t3 => troveref3_Sum.j2 d_0 t2 t3 Q w) (Eq.mp (by kernel_rfl) h) ?_
    intro ρ w h
    obtain ⟨d_0, e0, h⟩ := asL_el h
    obtain ⟨t2, e2, h⟩ := asA_el h
    obtain ⟨t3, e3, h⟩ := asL_el h
    refine reroot e0 (reroot (upd_other e2 rfl) (reroot (upd_other (upd_other e3 rfl) rfl) ?_))
    refine wpc_seq (fun ρ w => asL (ρ 0) fun d_0 => asA (ρ 2) fun t2 => asL (ρ 3) fun t3 => troveref3_Sum.j3 d_0 t2 t3 Q w) ?_ ?_
    · skip
      refine wpc_block ?_
      obtain ⟨I, μ, hI, hr⟩ := h
      refine wpc_loopS (α := Sl) (fun s ρ => ρ 3 = .slice s.a s.len s.cap ∧ ρ 0 = .slice d_0.a d_0.len d_0.cap ∧ ρ 2 = .pointer (some t2)) (fun s w => I s w) (fun s w => μ s w) t3 ⟨rfl, rfl, rfl⟩ hI ?_
      rintro t3 ρ w ⟨e3, e0, e2⟩ hI
      have h := hr t3 w hI
      clear hr
      obtain ⟨nx4, hnx⟩ : ∃ nx : Sl → Addr → Sl → World → Prop, nx = (fun d_0' t2' t3' w' => (d_0' = d_0 ∧ t2' = t2) ∧ I t3' w' ∧ μ t3' w' < μ t3 w) := ⟨_, rfl⟩
      rw [← hnx] at h
      refine wpc_norm (M := fun ρ w => asL (ρ 0) fun d_0 => asA (ρ 2) fun t2 => asL (ρ 3) fun t3 => nx4 d_0 t2 t3 w) ?_ (fun ρ w h => ?_)
      · skip
        refine reroot e0 (reroot (upd_other e2 rfl) (reroot (upd_other (upd_other e3 rfl) rfl) ?_))
        exact pt_sound hmix _ (Eq.mp (by kernel_rfl) h)
      · skip
        obtain ⟨d_0', e0', h⟩ := asL_el h
        obtain ⟨t2', e2', h⟩ := asA_el h
        obtain ⟨t3', e3', h⟩ := asL_el h
        rw [hnx] at h
        obtain ⟨hu, hI2, hμ⟩ := h
        obtain ⟨rfl, rfl⟩ := hu
        exact ⟨t3', ⟨e3', e0', e2'⟩, hI2, hμ⟩
    · intro ρ w h
      obtain ⟨d_0, e0, h⟩ := asL_el h
      obtain ⟨t2, e2, h⟩ := asA_el h
      obtain ⟨t3, e3, h⟩ := asL_el h
      refine reroot e0 (reroot (upd_other e2 rfl) (reroot (upd_other (upd_other e3 rfl) rfl) ?_))
      refine wpc_seq (fun ρ w => asA (ρ 2) fun t2 => asL (ρ 3) fun t3 => asI .u64 (ρ 4) fun t4 => troveref3_Sum.j4 t2 t3 t4 Q w) ?_ ?_
      · skip
        exact pt_sound hmix _ (Eq.mp (by kernel_rfl) h)
      · intro ρ w h
        obtain ⟨t2, e2, h⟩ := asA_el h
        obtain ⟨t3, e3, h⟩ := asL_el h
        obtain ⟨t4, e4, h⟩ := asI_el h
        refine reroot e2 (reroot (upd_other e3 rfl) (reroot (upd_other (upd_other e4 rfl) rfl) ?_))
        refine wpc_seq (fun ρ w => asA (ρ 2) fun t2 => asL (ρ 3) fun t3 => troveref3_Sum.j5 t2 t3 Q w) ?_ ?_
        · skip
          refine wpc_seq (fun ρ w => asA (ρ 2) fun t2 => asL (ρ 3) fun t3 => asI .u64 (ρ 4) fun t4 => asI .i64 (ρ 5) fun t5 => troveref3_Sum.j12 t2 t3 t4 t5 Q w) ?_ ?_
          · skip
            exact pt_sound hmix _ (Eq.mp (by kernel_rfl) h)
          · intro ρ w h
            obtain ⟨t2, e2, h⟩ := asA_el h
            obtain ⟨t3, e3, h⟩ := asL_el h
            obtain ⟨t4, e4, h⟩ := asI_el h
            obtain ⟨t5, e5, h⟩ := asI_el h
            refine reroot e2 (reroot (upd_other e3 rfl) (reroot (upd_other (upd_other e4 rfl) rfl) (reroot (upd_other (upd_other (upd_other e5 rfl) rfl) rfl) ?_)))
            refine wpc_block ?_
            obtain ⟨I, μ, hI, hr⟩ := h
            refine wpc_loopS (α := Sl × Int) (fun s ρ => ρ 3 = .slice s.1.a s.1.len s.1.cap ∧ ρ 5 = .int .i64 s.2 ∧ ρ 2 = .pointer (some t2) ∧ ρ 4 = .int .u64 t4) (fun s w => I s.1 s.2 w) (fun s w => μ s.1 s.2 w) (t3, t5) ⟨rfl, rfl, rfl, rfl⟩ hI ?_
            rintro ⟨t3, t5⟩ ρ w ⟨e3, e5, e2, e4⟩ hI
            have h := hr t3 t5 w hI
            clear hr
            obtain ⟨nx3, hnx⟩ : ∃ nx : Addr → Int → Sl → Int → World → Prop, nx = (fun t2' t4' t3' t5' w' => (t2' = t2 ∧ t4' = t4) ∧ I t3' t5' w' ∧ μ t3' t5' w' < μ t3 t5 w) := ⟨_, rfl⟩
            rw [← hnx] at h
            refine wpc_norm (M := fun ρ w => asA (ρ 2) fun t2 => asI .u64 (ρ 4) fun t4 => asL (ρ 3) fun t3 => asI .i64 (ρ 5) fun t5 => nx3 t2 t4 t3 t5 w) ?_ (fun ρ w h => ?_)
            · skip
              refine reroot e2 (reroot (upd_other e3 rfl) (reroot (upd_other (upd_other e4 rfl) rfl) (reroot (upd_other (upd_other (upd_other e5 rfl) rfl) rfl) ?_)))
              exact pt_sound hmix _ (Eq.mp (by kernel_rfl) h)
            · skip
              obtain ⟨t2', e2', h⟩ := asA_el h
              obtain ⟨t4', e4', h⟩ := asI_el h
              obtain ⟨t3', e3', h⟩ := asL_el h
              obtain ⟨t5', e5', h⟩ := asI_el h
              rw [hnx] at h
              obtain ⟨hu, hI2, hμ⟩ := h
              obtain ⟨rfl, rfl⟩ := hu
              exact ⟨(t3', t5'), ⟨e3', e5', e2', e4'⟩, hI2, hμ⟩
        · intro ρ w h
          obtain ⟨t2, e2, h⟩ := asA_el h
          obtain ⟨t3, e3, h⟩ := asL_el h
          refine reroot e2 (reroot (upd_other e3 rfl) ?_)
          refine wpc_seq (fun ρ w => asA (ρ 2) fun t2 => asL (ρ 3) fun t3 => asA (ρ 6) fun t6 => troveref3_Sum.j6 t2 t3 t6 Q w) ?_ ?_
          · skip
            exact pt_sound hmix _ (Eq.mp (by kernel_rfl) h)
          · intro ρ w h
            obtain ⟨t2, e2, h⟩ := asA_el h
            obtain ⟨t3, e3, h⟩ := asL_el h
            obtain ⟨t6, e6, h⟩ := asA_el h
            refine reroot e2 (reroot (upd_other e3 rfl) (reroot (upd_other (upd_other e6 rfl) rfl) ?_))
            refine wpc_seq (fun ρ w => asA (ρ 2) fun t2 => asA (ρ 6) fun t6 => troveref3_Sum.j7 t2 t6 Q w) ?_ ?_
            · skip
              refine wpc_seq (fun ρ w => asA (ρ 2) fun t2 => asL (ρ 3) fun t3 => asA (ρ 6) fun t6 => asI .i64 (ρ 7) fun t7 => troveref3_Sum.j11 t2 t3 t6 t7 Q w) ?_ ?_
              · skip
                exact pt_sound hmix _ (Eq.mp (by kernel_rfl) h)
              · intro ρ w h
                obtain ⟨t2, e2, h⟩ := asA_el h
                obtain ⟨t3, e3, h⟩ := asL_el h
                obtain ⟨t6, e6, h⟩ := asA_el h
                obtain ⟨t7, e7, h⟩ := asI_el h
                refine reroot e2 (reroot (upd_other e3 rfl) (reroot (upd_other (upd_other e6 rfl) rfl) (reroot (upd_other (upd_other (upd_other e7 rfl) rfl) rfl) ?_)))
                refine wpc_block ?_
                obtain ⟨I, μ, hI, hr⟩ := h
                refine wpc_loopS (α := Int) (fun s ρ => ρ 7 = .int .i64 s ∧ ρ 2 = .pointer (some t2) ∧ ρ 3 = .slice t3.a t3.len t3.cap ∧ ρ 6 = .pointer (some t6)) (fun s w => I s w) (fun s w => μ s w) t7 ⟨rfl, rfl, rfl, rfl⟩ hI ?_
                rintro t7 ρ w ⟨e7, e2, e3, e6⟩ hI
                have h := hr t7 w hI
                clear hr
                obtain ⟨nx2, hnx⟩ : ∃ nx : Addr → Sl → Addr → Int → World → Prop, nx = (fun t2' t3' t6' t7' w' => (t2' = t2 ∧ t3' = t3 ∧ t6' = t6) ∧ I t7' w' ∧ μ t7' w' < μ t7 w) := ⟨_, rfl⟩
                rw [← hnx] at h
                refine wpc_norm (M := fun ρ w => asA (ρ 2) fun t2 => asL (ρ 3) fun t3 => asA (ρ 6) fun t6 => asI .i64 (ρ 7) fun t7 => nx2 t2 t3 t6 t7 w) ?_ (fun ρ w h => ?_)
                · skip
                  refine reroot e2 (reroot (upd_other e3 rfl) (reroot (upd_other (upd_other e6 rfl) rfl) (reroot (upd_other (upd_other (upd_other e7 rfl) rfl) rfl) ?_)))
                  exact pt_sound hmix _ (Eq.mp (by kernel_rfl) h)
                · skip
                  obtain ⟨t2', e2', h⟩ := asA_el h
                  obtain ⟨t3', e3', h⟩ := asL_el h
                  obtain ⟨t6', e6', h⟩ := asA_el h
                  obtain ⟨t7', e7', h⟩ := asI_el h
                  rw [hnx] at h
                  obtain ⟨hu, hI2, hμ⟩ := h
                  obtain ⟨rfl, rfl, rfl⟩ := hu
                  exact ⟨t7', ⟨e7', e2', e3', e6'⟩, hI2, hμ⟩
            · intro ρ w h
              obtain ⟨t2, e2, h⟩ := asA_el h
              obtain ⟨t6, e6, h⟩ := asA_el h
              refine reroot e2 (reroot (upd_other e6 rfl) ?_)
              refine wpc_seq (fun ρ w => asA (ρ 2) fun t2 => asA (ρ 6) fun t6 => asA (ρ 8) fun t8 => troveref3_Sum.j8 t2 t6 t8 Q w) ?_ ?_
              · skip
                exact pt_sound hmix _ (Eq.mp (by kernel_rfl) h)
              · intro ρ w h
                obtain ⟨t2, e2, h⟩ := asA_el h
                obtain ⟨t6, e6, h⟩ := asA_el h
                obtain ⟨t8, e8, h⟩ := asA_el h
                refine reroot e2 (reroot (upd_other e6 rfl) (reroot (upd_other (upd_other e8 rfl) rfl) ?_))
                refine wpc_seq (fun ρ w => asA (ρ 2) fun t2 => asA (ρ 8) fun t8 => troveref3_Sum.j9 t2 t8 Q w) ?_ ?_
                · skip
                  refine wpc_seq (fun ρ w => asA (ρ 2) fun t2 => asA (ρ 6) fun t6 => asA (ρ 8) fun t8 => asI .i64 (ρ 9) fun t9 => troveref3_Sum.j10 t2 t6 t8 t9 Q w) ?_ ?_
                  · skip
                    exact pt_sound hmix _ (Eq.mp (by kernel_rfl) h)
                  · intro ρ w h
                    obtain ⟨t2, e2, h⟩ := asA_el h
                    obtain ⟨t6, e6, h⟩ := asA_el h
                    obtain ⟨t8, e8, h⟩ := asA_el h
                    obtain ⟨t9, e9, h⟩ := asI_el h
                    refine reroot e2 (reroot (upd_other e6 rfl) (reroot (upd_other (upd_other e8 rfl) rfl) (reroot (upd_other (upd_other (upd_other e9 rfl) rfl) rfl) ?_)))
                    refine wpc_block ?_
                    obtain ⟨I, μ, hI, hr⟩ := h
                    refine wpc_loopS (α := Int) (fun s ρ => ρ 9 = .int .i64 s ∧ ρ 2 = .pointer (some t2) ∧ ρ 6 = .pointer (some t6) ∧ ρ 8 = .pointer (some t8)) (fun s w => I s w) (fun s w => μ s w) t9 ⟨rfl, rfl, rfl, rfl⟩ hI ?_
                    rintro t9 ρ w ⟨e9, e2, e6, e8⟩ hI
                    have h := hr t9 w hI
                    clear hr
                    obtain ⟨nx1, hnx⟩ : ∃ nx : Addr → Addr → Addr → Int → World → Prop, nx = (fun t2' t6' t8' t9' w' => (t2' = t2 ∧ t6' = t6 ∧ t8' = t8) ∧ I t9' w' ∧ μ t9' w' < μ t9 w) := ⟨_, rfl⟩
                    rw [← hnx] at h
                    refine wpc_norm (M := fun ρ w => asA (ρ 2) fun t2 => asA (ρ 6) fun t6 => asA (ρ 8) fun t8 => asI .i64 (ρ 9) fun t9 => nx1 t2 t6 t8 t9 w) ?_ (fun ρ w h => ?_)
                    · skip
                      refine reroot e2 (reroot (upd_other e6 rfl) (reroot (upd_other (upd_other e8 rfl) rfl) (reroot (upd_other (upd_other (upd_other e9 rfl) rfl) rfl) ?_)))
                      exact pt_sound hmix _ (Eq.mp (by kernel_rfl) h)
                    · skip
                      obtain ⟨t2', e2', h⟩ := asA_el h
                      obtain ⟨t6', e6', h⟩ := asA_el h
                      obtain ⟨t8', e8', h⟩ := asA_el h
                      obtain ⟨t9', e9', h⟩ := asI_el h
                      rw [hnx] at h
                      obtain ⟨hu, hI2, hμ⟩ := h
                      obtain ⟨rfl, rfl, rfl⟩ := hu
                      exact ⟨t9', ⟨e9', e2', e6', e8'⟩, hI2, hμ⟩
                · intro ρ w h
                  obtain ⟨t2, e2, h⟩ := asA_el h
                  obtain ⟨t8, e8, h⟩ := asA_el h
                  refine reroot e2 (reroot (upd_other e8 rfl) ?_)
                  exact pt_sound hmix _ (Eq.mp (by kernel_rfl) h)

end Go.Proofs.Ytkajimndclhgaaa
