/- PRINTED BY gen.py (own work): what calls come to, and the proofs of it. -/
import Derived.Test.YtkajimndclhgaaaVcJ
import Derived.Test.YtkajimndclhgaaaProg
namespace Go.Proofs.Ytkajimndclhgaaa
open Go Go.Proofs
set_option linter.unusedVariables false
set_option maxRecDepth 100000

/-! trove/trovelaw3.known -/
def trovelaw3_known  (Q : Value → World → Prop) (w : World) : Prop :=
  Calls Try.prog 57 ⟨[.slice none 0 0]⟩ w fun e1 w2 =>
  ∃ r3 : (Array Value), e1 = .returned (.agg r3) ∧
  lt (⟨World.heapSize w2, 0, none⟩ : Addr) fun a4 =>
  lt (World.alloc w2 (.cells (zc Try.prog 51) 51)) fun w5 =>
  (r3).size = 20 ∧
  stA w5 a4 r3 fun w6 =>
  lt (⟨World.heapSize w6, 0, none⟩ : Addr) fun a7 =>
  lt (World.alloc w6 (.cells ⟨[.int .u8 97, .int .u8 98, .int .u8 99]⟩ 5)) fun w8 =>
  mkStr w8 (some a7) fun w9 =>
  Calls Try.prog 57 ⟨[.slice (some a7) 3 3]⟩ w9 fun e10 w11 =>
  ∃ r12 : (Array Value), e10 = .returned (.agg r12) ∧
  lt (⟨World.heapSize w11, 0, none⟩ : Addr) fun a13 =>
  lt (World.alloc w11 (.cells (zc Try.prog 51) 51)) fun w14 =>
  (r12).size = 20 ∧
  stA w14 a13 r12 fun w15 =>
  Calls Try.prog 59 ⟨[]⟩ w15 fun e16 w17 =>
  ∃ r18 : (Option Addr), e16 = .returned (.pointer r18) ∧
  br (Option.isNone r18) (
  Q (.bool false) w17) (
  lt (⟨World.heapSize w17, 0, none⟩ : Addr) fun a19 =>
  lt (World.alloc w17 (.cells ⟨[.int .u8 97, .int .u8 98]⟩ 5)) fun w20 =>
  mkStr w20 (some a19) fun w21 =>
  Calls Try.prog 60 ⟨[.pointer r18, .slice (some a19) 2 2]⟩ w21 fun e22 w23 =>
  e22 = .returned (.tuple ⟨[]⟩) ∧
  lt (⟨World.heapSize w23, 0, none⟩ : Addr) fun a24 =>
  lt (World.alloc w23 (.cells ⟨[.int .u8 99]⟩ 5)) fun w25 =>
  mkStr w25 (some a24) fun w26 =>
  Calls Try.prog 60 ⟨[.pointer r18, .slice (some a24) 1 1]⟩ w26 fun e27 w28 =>
  e27 = .returned (.tuple ⟨[]⟩) ∧
  lt (World.drew w28) fun w29 =>
  ixA a4 20 0 1 fun a30 =>
  ldI .u8 w29 a30 fun x31 =>
  br ((x31 : Int) == 218) (
  ixA a4 20 19 1 fun a32 =>
  ldI .u8 w29 a32 fun x33 =>
  br ((x33 : Int) == 9) (
  ixA a13 20 0 1 fun a34 =>
  ldI .u8 w29 a34 fun x35 =>
  br ((x35 : Int) == 169) (
  ixA a13 20 19 1 fun a36 =>
  ldI .u8 w29 a36 fun x37 =>
  br ((x37 : Int) == 157) (
  (Calls Try.prog 62 ⟨[.pointer r18]⟩ w29 fun e38 w39 =>
  ∃ r40 : (Array Value), e38 = .returned (.agg r40) ∧
  ldA w39 a13 20 fun c41 =>
  eqA .u8 20 r40 c41 fun x42 =>
  br x42 (
  Calls Try.prog 61 ⟨[.pointer r18]⟩ w39 fun e43 w44 =>
  ∃ r45 : Int, e43 = .returned (.int .i64 r45) ∧
  Q (.bool ((r45 : Int) == 3)) w44) (
  Q (.bool false) w39)) ∧ (
  ldA w29 a13 20 fun c46 =>
  Calls Try.prog 62 ⟨[.pointer r18]⟩ w29 fun e47 w48 =>
  ∃ r49 : (Array Value), e47 = .returned (.agg r49) ∧
  eqA .u8 20 r49 c46 fun x50 =>
  br x50 (
  Calls Try.prog 61 ⟨[.pointer r18]⟩ w48 fun e51 w52 =>
  ∃ r53 : Int, e51 = .returned (.int .i64 r53) ∧
  Q (.bool ((r53 : Int) == 3)) w52) (
  Q (.bool false) w48))) (
  (Q (.bool false) w29) ∧ (
  Q (.bool false) w29))) (
  (Q (.bool false) w29) ∧ (
  Q (.bool false) w29))) (
  (Q (.bool false) w29) ∧ (
  Q (.bool false) w29))) (
  (Q (.bool false) w29) ∧ (
  Q (.bool false) w29)))

theorem trovelaw3_known.ok  (Q : Value → World → Prop) (w : World) (h : trovelaw3_known  Q w) : Calls Try.prog 56 ⟨[]⟩ w (Ret Q) := by
  refine calls_of_wpc [.tmp 0] Try.func56 rfl rfl rfl rfl ?_
  exact pt_sound hmix _ (Eq.mp (by kernel_rfl) h)

/-! trove/trovelaw3.ShaBytes -/
def trovelaw3_ShaBytes (b_0 : Sl) (Q : Value → World → Prop) (w : World) : Prop :=
  Calls Try.prog 56 ⟨[]⟩ w fun e1 w2 =>
  ∃ r3 : Bool, e1 = .returned (.bool r3) ∧
  br (!r3) (
  Q (.bool false) w2) (
  br (decide ((((b_0.len : Nat) : Int) : Int) > 3000)) (
  Q (.bool true) w2) (
  Calls Try.prog 57 ⟨[.slice b_0.a b_0.len b_0.cap]⟩ w2 fun e4 w5 =>
  ∃ r6 : (Array Value), e4 = .returned (.agg r6) ∧
  Calls Try.prog 58 ⟨[.slice b_0.a b_0.len b_0.cap]⟩ w5 fun e7 w8 =>
  ∃ r9 : (Array Value), e7 = .returned (.agg r9) ∧
  eqA .u8 20 r6 r9 fun x10 =>
  Q (.bool x10) w8))

theorem trovelaw3_ShaBytes.ok (b_0 : Sl) (Q : Value → World → Prop) (w : World) (h : trovelaw3_ShaBytes b_0 Q w) : Calls Try.prog 7 ⟨[.slice b_0.a b_0.len b_0.cap]⟩ w (Ret Q) := by
  refine calls_of_wpc [.tmp 2] Try.func7 rfl rfl rfl rfl ?_
  exact pt_sound hmix _ (Eq.mp (by kernel_rfl) h)

/-! trove/trovelaw3.ShaParts -/
def trovelaw3_ShaParts.j4 (i_1 : Sl) (t5 : (Option Addr)) (t6 : Sl) (Q : Value → World → Prop) (w : World) : Prop :=
  Calls Try.prog 63 ⟨[.pointer t5]⟩ w fun e1 w2 =>
  ∃ r3 : (Option Addr), e1 = .returned (.pointer r3) ∧
  br (Option.isNone r3) (
  Q (.bool false) w2) (
  Calls Try.prog 60 ⟨[.pointer r3, .slice i_1.a i_1.len i_1.cap]⟩ w2 fun e4 w5 =>
  e4 = .returned (.tuple ⟨[]⟩) ∧
  Calls Try.prog 62 ⟨[.pointer t5]⟩ w5 fun e6 w7 =>
  ∃ r8 : (Array Value), e6 = .returned (.agg r8) ∧
  lt (⟨World.heapSize w7, 0, none⟩ : Addr) fun a9 =>
  lt (World.alloc w7 (.cells (zc Try.prog 51) 51)) fun w10 =>
  (r8).size = 20 ∧
  stA w10 a9 r8 fun w11 =>
  lt (World.drew w11) fun w12 =>
  (Calls Try.prog 62 ⟨[.pointer r3]⟩ w12 fun e13 w14 =>
  ∃ r15 : (Array Value), e13 = .returned (.agg r15) ∧
  lt (⟨World.heapSize w14, 0, none⟩ : Addr) fun a16 =>
  lt (World.alloc w14 (.cells ⟨[]⟩ 5)) fun w17 =>
  rdO w17 t6.a (t6.len * 1) fun c18 =>
  apK Try.prog 5 w17 (some a16) 0 0 t6.len c18 fun s19 w20 =>
  rdO w20 i_1.a (i_1.len * 1) fun c21 =>
  apK Try.prog 5 w20 s19.a s19.len s19.cap i_1.len c21 fun s22 w23 =>
  Calls Try.prog 58 ⟨[.slice s22.a s22.len s22.cap]⟩ w23 fun e24 w25 =>
  ∃ r26 : (Array Value), e24 = .returned (.agg r26) ∧
  eqA .u8 20 r15 r26 fun x27 =>
  br x27 (
  (ldA w25 a9 20 fun c28 =>
  Calls Try.prog 62 ⟨[.pointer t5]⟩ w25 fun e29 w30 =>
  ∃ r31 : (Array Value), e29 = .returned (.agg r31) ∧
  eqA .u8 20 c28 r31 fun x32 =>
  br x32 (
  Calls Try.prog 61 ⟨[.pointer t5]⟩ w30 fun e33 w34 =>
  ∃ r35 : Int, e33 = .returned (.int .i64 r35) ∧
  br ((r35 : Int) == ((t6.len : Nat) : Int)) (
  (ldA w34 a9 20 fun c36 =>
  Calls Try.prog 58 ⟨[.slice t6.a t6.len t6.cap]⟩ w34 fun e37 w38 =>
  ∃ r39 : (Array Value), e37 = .returned (.agg r39) ∧
  eqA .u8 20 c36 r39 fun x40 =>
  Q (.bool x40) w38) ∧ (
  Calls Try.prog 58 ⟨[.slice t6.a t6.len t6.cap]⟩ w34 fun e41 w42 =>
  ∃ r43 : (Array Value), e41 = .returned (.agg r43) ∧
  ldA w42 a9 20 fun c44 =>
  eqA .u8 20 c44 r43 fun x45 =>
  Q (.bool x45) w42)) (
  (Q (.bool false) w34) ∧ (
  Q (.bool false) w34))) (
  (Q (.bool false) w30) ∧ (
  Q (.bool false) w30))) ∧ (
  Calls Try.prog 62 ⟨[.pointer t5]⟩ w25 fun e46 w47 =>
  ∃ r48 : (Array Value), e46 = .returned (.agg r48) ∧
  ldA w47 a9 20 fun c49 =>
  eqA .u8 20 c49 r48 fun x50 =>
  br x50 (
  Calls Try.prog 61 ⟨[.pointer t5]⟩ w47 fun e51 w52 =>
  ∃ r53 : Int, e51 = .returned (.int .i64 r53) ∧
  br ((r53 : Int) == ((t6.len : Nat) : Int)) (
  (ldA w52 a9 20 fun c54 =>
  Calls Try.prog 58 ⟨[.slice t6.a t6.len t6.cap]⟩ w52 fun e55 w56 =>
  ∃ r57 : (Array Value), e55 = .returned (.agg r57) ∧
  eqA .u8 20 c54 r57 fun x58 =>
  Q (.bool x58) w56) ∧ (
  Calls Try.prog 58 ⟨[.slice t6.a t6.len t6.cap]⟩ w52 fun e59 w60 =>
  ∃ r61 : (Array Value), e59 = .returned (.agg r61) ∧
  ldA w60 a9 20 fun c62 =>
  eqA .u8 20 c62 r61 fun x63 =>
  Q (.bool x63) w60)) (
  (Q (.bool false) w52) ∧ (
  Q (.bool false) w52))) (
  (Q (.bool false) w47) ∧ (
  Q (.bool false) w47)))) (
  ((Q (.bool false) w25) ∧ (
  Q (.bool false) w25)) ∧ (
  (Q (.bool false) w25) ∧ (
  Q (.bool false) w25)))) ∧ (
  lt (⟨World.heapSize w12, 0, none⟩ : Addr) fun a64 =>
  lt (World.alloc w12 (.cells ⟨[]⟩ 5)) fun w65 =>
  Calls Try.prog 62 ⟨[.pointer r3]⟩ w65 fun e66 w67 =>
  ∃ r68 : (Array Value), e66 = .returned (.agg r68) ∧
  rdO w67 t6.a (t6.len * 1) fun c69 =>
  apK Try.prog 5 w67 (some a64) 0 0 t6.len c69 fun s70 w71 =>
  rdO w71 i_1.a (i_1.len * 1) fun c72 =>
  apK Try.prog 5 w71 s70.a s70.len s70.cap i_1.len c72 fun s73 w74 =>
  Calls Try.prog 58 ⟨[.slice s73.a s73.len s73.cap]⟩ w74 fun e75 w76 =>
  ∃ r77 : (Array Value), e75 = .returned (.agg r77) ∧
  eqA .u8 20 r68 r77 fun x78 =>
  br x78 (
  (ldA w76 a9 20 fun c79 =>
  Calls Try.prog 62 ⟨[.pointer t5]⟩ w76 fun e80 w81 =>
  ∃ r82 : (Array Value), e80 = .returned (.agg r82) ∧
  eqA .u8 20 c79 r82 fun x83 =>
  br x83 (
  Calls Try.prog 61 ⟨[.pointer t5]⟩ w81 fun e84 w85 =>
  ∃ r86 : Int, e84 = .returned (.int .i64 r86) ∧
  br ((r86 : Int) == ((t6.len : Nat) : Int)) (
  (ldA w85 a9 20 fun c87 =>
  Calls Try.prog 58 ⟨[.slice t6.a t6.len t6.cap]⟩ w85 fun e88 w89 =>
  ∃ r90 : (Array Value), e88 = .returned (.agg r90) ∧
  eqA .u8 20 c87 r90 fun x91 =>
  Q (.bool x91) w89) ∧ (
  Calls Try.prog 58 ⟨[.slice t6.a t6.len t6.cap]⟩ w85 fun e92 w93 =>
  ∃ r94 : (Array Value), e92 = .returned (.agg r94) ∧
  ldA w93 a9 20 fun c95 =>
  eqA .u8 20 c95 r94 fun x96 =>
  Q (.bool x96) w93)) (
  (Q (.bool false) w85) ∧ (
  Q (.bool false) w85))) (
  (Q (.bool false) w81) ∧ (
  Q (.bool false) w81))) ∧ (
  Calls Try.prog 62 ⟨[.pointer t5]⟩ w76 fun e97 w98 =>
  ∃ r99 : (Array Value), e97 = .returned (.agg r99) ∧
  ldA w98 a9 20 fun c100 =>
  eqA .u8 20 c100 r99 fun x101 =>
  br x101 (
  Calls Try.prog 61 ⟨[.pointer t5]⟩ w98 fun e102 w103 =>
  ∃ r104 : Int, e102 = .returned (.int .i64 r104) ∧
  br ((r104 : Int) == ((t6.len : Nat) : Int)) (
  (ldA w103 a9 20 fun c105 =>
  Calls Try.prog 58 ⟨[.slice t6.a t6.len t6.cap]⟩ w103 fun e106 w107 =>
  ∃ r108 : (Array Value), e106 = .returned (.agg r108) ∧
  eqA .u8 20 c105 r108 fun x109 =>
  Q (.bool x109) w107) ∧ (
  Calls Try.prog 58 ⟨[.slice t6.a t6.len t6.cap]⟩ w103 fun e110 w111 =>
  ∃ r112 : (Array Value), e110 = .returned (.agg r112) ∧
  ldA w111 a9 20 fun c113 =>
  eqA .u8 20 c113 r112 fun x114 =>
  Q (.bool x114) w111)) (
  (Q (.bool false) w103) ∧ (
  Q (.bool false) w103))) (
  (Q (.bool false) w98) ∧ (
  Q (.bool false) w98)))) (
  ((Q (.bool false) w76) ∧ (
  Q (.bool false) w76)) ∧ (
  (Q (.bool false) w76) ∧ (
  Q (.bool false) w76)))))

def trovelaw3_ShaParts.b1 (d_0 : Sl) (i_1 : Sl) (t5 : (Option Addr)) (t6 : Sl) (t7 : Int) (Q : Value → World → Prop) (nx1 : Sl → Sl → (Option Addr) → Sl → Int → World → Prop) (w : World) : Prop :=
  br (decide ((t7 : Int) < ((d_0.len : Nat) : Int))) (
  ixS d_0.a d_0.len t7 1 fun a115 =>
  ldL w a115 fun x116 =>
  br (decide ((((x116.len : Nat) : Int) : Int) > 200)) (
  Q (.bool true) w) (
  ixS d_0.a d_0.len t7 1 fun a117 =>
  ldL w a117 fun x118 =>
  Calls Try.prog 60 ⟨[.pointer t5, .slice x118.a x118.len x118.cap]⟩ w fun e119 w120 =>
  e119 = .returned (.tuple ⟨[]⟩) ∧
  ixS d_0.a d_0.len t7 1 fun a121 =>
  ldL w120 a121 fun x122 =>
  rdO w120 x122.a (x122.len * 1) fun c123 =>
  apK Try.prog 5 w120 t6.a t6.len t6.cap x122.len c123 fun s124 w125 =>
  Calls Try.prog 61 ⟨[.pointer t5]⟩ w125 fun e126 w127 =>
  ∃ r128 : Int, e126 = .returned (.int .i64 r128) ∧
  br ((r128 : Int) != ((s124.len : Nat) : Int)) (
  Q (.bool false) w127) (
  Calls Try.prog 62 ⟨[.pointer t5]⟩ w127 fun e129 w130 =>
  ∃ r131 : (Array Value), e129 = .returned (.agg r131) ∧
  Calls Try.prog 58 ⟨[.slice s124.a s124.len s124.cap]⟩ w130 fun e132 w133 =>
  ∃ r134 : (Array Value), e132 = .returned (.agg r134) ∧
  eqA .u8 20 r131 r134 fun x135 =>
  br (!x135) (
  Q (.bool false) w133) (
  lt (IntKind.i64.wrap (t7 + 1)) fun x136 =>
  nx1 d_0 i_1 t5 s124 x136 w133)))) (
  trovelaw3_ShaParts.j4 i_1 t5 t6 Q w)

def trovelaw3_ShaParts.l1 (d_0 : Sl) (i_1 : Sl) (t5 : (Option Addr)) (t6 : Sl) (t7 : Int) (Q : Value → World → Prop) (w : World) : Prop :=
  ∃ (I : Sl → Int → World → Prop) (μ : Sl → Int → World → Nat), I t6 t7 w ∧ ∀ t6 : Sl, ∀ t7 : Int, ∀ w : World, I t6 t7 w → trovelaw3_ShaParts.b1 d_0 i_1 t5 t6 t7 Q (fun d_0' i_1' t5' t6' t7' w' => (d_0' = d_0 ∧ i_1' = i_1 ∧ t5' = t5) ∧ I t6' t7' w' ∧ μ t6' t7' w' < μ t6 t7 w) w

def trovelaw3_ShaParts.j5 (d_0 : Sl) (i_1 : Sl) (t5 : (Option Addr)) (t6 : Sl) (t7 : Int) (Q : Value → World → Prop) (w : World) : Prop :=
  trovelaw3_ShaParts.l1 d_0 i_1 t5 t6 t7 Q w

def trovelaw3_ShaParts.j3 (d_0 : Sl) (i_1 : Sl) (t5 : (Option Addr)) (t6 : Sl) (Q : Value → World → Prop) (w : World) : Prop :=
  trovelaw3_ShaParts.j5 d_0 i_1 t5 t6 0 Q w

def trovelaw3_ShaParts.j2 (d_0 : Sl) (i_1 : Sl) (Q : Value → World → Prop) (w : World) : Prop :=
  Calls Try.prog 59 ⟨[]⟩ w fun e137 w138 =>
  ∃ r139 : (Option Addr), e137 = .returned (.pointer r139) ∧
  trovelaw3_ShaParts.j3 d_0 i_1 r139 ⟨none, 0, 0⟩ Q w138

def trovelaw3_ShaParts.j1 (d_0 : Sl) (i_1 : Sl) (Q : Value → World → Prop) (w : World) : Prop :=
  Calls Try.prog 56 ⟨[]⟩ w fun e140 w141 =>
  ∃ r142 : Bool, e140 = .returned (.bool r142) ∧
  br (!r142) (
  Q (.bool false) w141) (
  br (decide ((((d_0.len : Nat) : Int) : Int) > 30)) (
  Q (.bool true) w141) (
  br (decide ((((i_1.len : Nat) : Int) : Int) > 3000)) (
  Q (.bool true) w141) (
  trovelaw3_ShaParts.j2 d_0 i_1 Q w141)))

def trovelaw3_ShaParts (d_0 : Sl) (i_1 : Sl) (Q : Value → World → Prop) (w : World) : Prop :=
  trovelaw3_ShaParts.j1 d_0 i_1 Q w

theorem trovelaw3_ShaParts.ok (d_0 : Sl) (i_1 : Sl) (Q : Value → World → Prop) (w : World) (h : trovelaw3_ShaParts d_0 i_1 Q w) : Calls Try.prog 8 ⟨[.slice d_0.a d_0.len d_0.cap, .slice i_1.a i_1.len i_1.cap]⟩ w (Ret Q) := by
  refine calls_of_wpc [.tmp 4] Try.func8 rfl rfl rfl rfl ?_
  refine wpc_seq (fun ρ w => asL (ρ 0) fun d_0 => asL (ρ 1) fun i_1 => trovelaw3_ShaParts.j1 d_0 i_1 Q w) ?_ ?_
  · skip
    exact pt_sound hmix _ (Eq.mp (by kernel_rfl) h)
  · intro ρ w h
    obtain ⟨d_0, e0, h⟩ := asL_el h
    obtain ⟨i_1, e1, h⟩ := asL_el h
    refine reroot e0 (reroot (upd_other e1 rfl) ?_)
    refine wpc_pre2 hmix (fun ρ w => asL (ρ 0) fun d_0 => asL (ρ 1) fun i_1 => trovelaw3_ShaParts.j2 d_0 i_1 Q w) (Eq.mp (by kernel_rfl) h) ?_
    intro ρ w h
    obtain ⟨d_0, e0, h⟩ := asL_el h
    obtain ⟨i_1, e1, h⟩ := asL_el h
    refine reroot e0 (reroot (upd_other e1 rfl) ?_)
    refine wpc_pre2 hmix (fun ρ w => asL (ρ 0) fun d_0 => asL (ρ 1) fun i_1 => asP (ρ 5) fun t5 => asL (ρ 6) fun t6 => trovelaw3_ShaParts.j3 d_0 i_1 t5 t6 Q w) (Eq.mp (by kernel_rfl) h) ?_
    intro ρ w h
    obtain ⟨d_0, e0, h⟩ := asL_el h
    obtain ⟨i_1, e1, h⟩ := asL_el h
    obtain ⟨t5, e5, h⟩ := asP_el h
    obtain ⟨t6, e6, h⟩ := asL_el h
    refine reroot e0 (reroot (upd_other e1 rfl) (reroot (upd_other (upd_other e5 rfl) rfl) (reroot (upd_other (upd_other (upd_other e6 rfl) rfl) rfl) ?_)))
    refine wpc_seq (fun ρ w => asL (ρ 1) fun i_1 => asP (ρ 5) fun t5 => asL (ρ 6) fun t6 => trovelaw3_ShaParts.j4 i_1 t5 t6 Q w) ?_ ?_
    · skip
      refine wpc_seq (fun ρ w => asL (ρ 0) fun d_0 => asL (ρ 1) fun i_1 => asP (ρ 5) fun t5 => asL (ρ 6) fun t6 => asI .i64 (ρ 7) fun t7 => trovelaw3_ShaParts.j5 d_0 i_1 t5 t6 t7 Q w) ?_ ?_
      · skip
        exact pt_sound hmix _ (Eq.mp (by kernel_rfl) h)
      · intro ρ w h
        obtain ⟨d_0, e0, h⟩ := asL_el h
        obtain ⟨i_1, e1, h⟩ := asL_el h
        obtain ⟨t5, e5, h⟩ := asP_el h
        obtain ⟨t6, e6, h⟩ := asL_el h
        obtain ⟨t7, e7, h⟩ := asI_el h
        refine reroot e0 (reroot (upd_other e1 rfl) (reroot (upd_other (upd_other e5 rfl) rfl) (reroot (upd_other (upd_other (upd_other e6 rfl) rfl) rfl) (reroot (upd_other (upd_other (upd_other (upd_other e7 rfl) rfl) rfl) rfl) ?_))))
        refine wpc_block ?_
        obtain ⟨I, μ, hI, hr⟩ := h
        refine wpc_loopS (α := Sl × Int) (fun s ρ => ρ 6 = .slice s.1.a s.1.len s.1.cap ∧ ρ 7 = .int .i64 s.2 ∧ ρ 0 = .slice d_0.a d_0.len d_0.cap ∧ ρ 1 = .slice i_1.a i_1.len i_1.cap ∧ ρ 5 = .pointer t5) (fun s w => I s.1 s.2 w) (fun s w => μ s.1 s.2 w) (t6, t7) ⟨rfl, rfl, rfl, rfl, rfl⟩ hI ?_
        rintro ⟨t6, t7⟩ ρ w ⟨e6, e7, e0, e1, e5⟩ hI
        have h := hr t6 t7 w hI
        clear hr
        obtain ⟨nx1, hnx⟩ : ∃ nx : Sl → Sl → (Option Addr) → Sl → Int → World → Prop, nx = (fun d_0' i_1' t5' t6' t7' w' => (d_0' = d_0 ∧ i_1' = i_1 ∧ t5' = t5) ∧ I t6' t7' w' ∧ μ t6' t7' w' < μ t6 t7 w) := ⟨_, rfl⟩
        rw [← hnx] at h
        refine wpc_norm (M := fun ρ w => asL (ρ 0) fun d_0 => asL (ρ 1) fun i_1 => asP (ρ 5) fun t5 => asL (ρ 6) fun t6 => asI .i64 (ρ 7) fun t7 => nx1 d_0 i_1 t5 t6 t7 w) ?_ (fun ρ w h => ?_)
        · skip
          refine reroot e0 (reroot (upd_other e1 rfl) (reroot (upd_other (upd_other e5 rfl) rfl) (reroot (upd_other (upd_other (upd_other e6 rfl) rfl) rfl) (reroot (upd_other (upd_other (upd_other (upd_other e7 rfl) rfl) rfl) rfl) ?_))))
          exact pt_sound hmix _ (Eq.mp (by kernel_rfl) h)
        · skip
          obtain ⟨d_0', e0', h⟩ := asL_el h
          obtain ⟨i_1', e1', h⟩ := asL_el h
          obtain ⟨t5', e5', h⟩ := asP_el h
          obtain ⟨t6', e6', h⟩ := asL_el h
          obtain ⟨t7', e7', h⟩ := asI_el h
          rw [hnx] at h
          obtain ⟨hu, hI2, hμ⟩ := h
          obtain ⟨rfl, rfl, rfl⟩ := hu
          exact ⟨(t6', t7'), ⟨e6', e7', e0', e1', e5'⟩, hI2, hμ⟩
    · intro ρ w h
      obtain ⟨i_1, e1, h⟩ := asL_el h
      obtain ⟨t5, e5, h⟩ := asP_el h
      obtain ⟨t6, e6, h⟩ := asL_el h
      refine reroot e1 (reroot (upd_other e5 rfl) (reroot (upd_other (upd_other e6 rfl) rfl) ?_))
      exact pt_sound hmix _ (Eq.mp (by kernel_rfl) h)

/-! trove/trovelaw3.ShaLong -/
def trovelaw3_ShaLong.j3 (cut_1 : Int) (b_7 : Sl) (Q : Value → World → Prop) (w : World) : Prop :=
  Calls Try.prog 59 ⟨[]⟩ w fun e1 w2 =>
  ∃ r3 : (Option Addr), e1 = .returned (.pointer r3) ∧
  bd cut_1 b_7.cap fun n4 =>
  lt (⟨cutA b_7.a b_7.cap 0 1, n4 - 0, b_7.cap - 0⟩ : Sl) fun s5 =>
  Calls Try.prog 60 ⟨[.pointer r3, .slice s5.a s5.len s5.cap]⟩ w2 fun e6 w7 =>
  e6 = .returned (.tuple ⟨[]⟩) ∧
  bd cut_1 b_7.len fun n8 =>
  lt (⟨cutA b_7.a b_7.cap n8 1, b_7.len - n8, b_7.cap - n8⟩ : Sl) fun s9 =>
  Calls Try.prog 60 ⟨[.pointer r3, .slice s9.a s9.len s9.cap]⟩ w7 fun e10 w11 =>
  e10 = .returned (.tuple ⟨[]⟩) ∧
  Calls Try.prog 62 ⟨[.pointer r3]⟩ w11 fun e12 w13 =>
  ∃ r14 : (Array Value), e12 = .returned (.agg r14) ∧
  Calls Try.prog 57 ⟨[.slice b_7.a b_7.len b_7.cap]⟩ w13 fun e15 w16 =>
  ∃ r17 : (Array Value), e15 = .returned (.agg r17) ∧
  eqA .u8 20 r14 r17 fun x18 =>
  br x18 (
  Calls Try.prog 57 ⟨[.slice b_7.a b_7.len b_7.cap]⟩ w16 fun e19 w20 =>
  ∃ r21 : (Array Value), e19 = .returned (.agg r21) ∧
  Calls Try.prog 58 ⟨[.slice b_7.a b_7.len b_7.cap]⟩ w20 fun e22 w23 =>
  ∃ r24 : (Array Value), e22 = .returned (.agg r24) ∧
  eqA .u8 20 r21 r24 fun x25 =>
  Q (.bool x25) w23) (
  Q (.bool false) w16)

def trovelaw3_ShaLong.b1 (n_0 : Int) (cut_1 : Int) (c_2 : Int) (b_7 : Sl) (i_8 : Int) (Q : Value → World → Prop) (nx1 : Int → Int → Int → Sl → Int → World → Prop) (w : World) : Prop :=
  br (decide ((i_8 : Int) < n_0)) (
  ixS b_7.a b_7.len i_8 1 fun a26 =>
  st w a26 (.int .u8 c_2) fun w27 =>
  lt (IntKind.i64.wrap (i_8 + 1)) fun x28 =>
  nx1 n_0 cut_1 c_2 b_7 x28 w27) (
  trovelaw3_ShaLong.j3 cut_1 b_7 Q w)

def trovelaw3_ShaLong.l1 (n_0 : Int) (cut_1 : Int) (c_2 : Int) (b_7 : Sl) (i_8 : Int) (Q : Value → World → Prop) (w : World) : Prop :=
  ∃ (I : Int → World → Prop) (μ : Int → World → Nat), I i_8 w ∧ ∀ i_8 : Int, ∀ w : World, I i_8 w → trovelaw3_ShaLong.b1 n_0 cut_1 c_2 b_7 i_8 Q (fun n_0' cut_1' c_2' b_7' i_8' w' => (n_0' = n_0 ∧ cut_1' = cut_1 ∧ c_2' = c_2 ∧ b_7' = b_7) ∧ I i_8' w' ∧ μ i_8' w' < μ i_8 w) w

def trovelaw3_ShaLong.j4 (n_0 : Int) (cut_1 : Int) (c_2 : Int) (b_7 : Sl) (i_8 : Int) (Q : Value → World → Prop) (w : World) : Prop :=
  trovelaw3_ShaLong.l1 n_0 cut_1 c_2 b_7 i_8 Q w

def trovelaw3_ShaLong.j2 (n_0 : Int) (cut_1 : Int) (c_2 : Int) (b_7 : Sl) (Q : Value → World → Prop) (w : World) : Prop :=
  trovelaw3_ShaLong.j4 n_0 cut_1 c_2 b_7 0 Q w

def trovelaw3_ShaLong.j1 (n_0 : Int) (cut_1 : Int) (c_2 : Int) (Q : Value → World → Prop) (w : World) : Prop :=
  br (decide ((n_0 : Int) < 0)) (
  Q (.bool true) w) (
  br (decide ((n_0 : Int) > 4000)) (
  Q (.bool true) w) (
  br (decide ((cut_1 : Int) < 0)) (
  Q (.bool true) w) (
  br (decide ((cut_1 : Int) > n_0)) (
  Q (.bool true) w) (
  mkK Try.prog 5 w n_0 n_0 fun s29 w30 =>
  trovelaw3_ShaLong.j2 n_0 cut_1 c_2 s29 Q w30))))

def trovelaw3_ShaLong (n_0 : Int) (cut_1 : Int) (c_2 : Int) (Q : Value → World → Prop) (w : World) : Prop :=
  Calls Try.prog 56 ⟨[]⟩ w fun e31 w32 =>
  ∃ r33 : Bool, e31 = .returned (.bool r33) ∧
  br (!r33) (
  Q (.bool false) w32) (
  trovelaw3_ShaLong.j1 n_0 cut_1 c_2 Q w32)

theorem trovelaw3_ShaLong.ok (n_0 : Int) (cut_1 : Int) (c_2 : Int) (Q : Value → World → Prop) (w : World) (h : trovelaw3_ShaLong n_0 cut_1 c_2 Q w) : Calls Try.prog 9 ⟨[.int .i64 n_0, .int .i64 cut_1, .int .u8 c_2]⟩ w (Ret Q) := by
  refine calls_of_wpc [.tmp 6] Try.func9 rfl rfl rfl rfl ?_
  refine wpc_pre2 hmix (fun ρ w => asI .i64 (ρ 0) fun n_0 => asI .i64 (ρ 1) fun cut_1 => asI .u8 (ρ 2) fun c_2 => trovelaw3_ShaLong.j1 n_0 cut_1 c_2 Q w) (Eq.mp (by kernel_rfl) h) ?_
  intro ρ w h
  obtain ⟨n_0, e0, h⟩ := asI_el h
  obtain ⟨cut_1, e1, h⟩ := asI_el h
  obtain ⟨c_2, e2, h⟩ := asI_el h
  refine reroot e0 (reroot (upd_other e1 rfl) (reroot (upd_other (upd_other e2 rfl) rfl) ?_))
  refine wpc_pre2 hmix (fun ρ w => asI .i64 (ρ 0) fun n_0 => asI .i64 (ρ 1) fun cut_1 => asI .u8 (ρ 2) fun c_2 => asL (ρ 7) fun b_7 => trovelaw3_ShaLong.j2 n_0 cut_1 c_2 b_7 Q w) (Eq.mp (by kernel_rfl) h) ?_
  intro ρ w h
  obtain ⟨n_0, e0, h⟩ := asI_el h
  obtain ⟨cut_1, e1, h⟩ := asI_el h
  obtain ⟨c_2, e2, h⟩ := asI_el h
  obtain ⟨b_7, e7, h⟩ := asL_el h
  refine reroot e0 (reroot (upd_other e1 rfl) (reroot (upd_other (upd_other e2 rfl) rfl) (reroot (upd_other (upd_other (upd_other e7 rfl) rfl) rfl) ?_)))
  refine wpc_seq (fun ρ w => asI .i64 (ρ 1) fun cut_1 => asL (ρ 7) fun b_7 => trovelaw3_ShaLong.j3 cut_1 b_7 Q w) ?_ ?_
  · skip
    refine wpc_seq (fun ρ w => asI .i64 (ρ 0) fun n_0 => asI .i64 (ρ 1) fun cut_1 => asI .u8 (ρ 2) fun c_2 => asL (ρ 7) fun b_7 => asI .i64 (ρ 8) fun i_8 => trovelaw3_ShaLong.j4 n_0 cut_1 c_2 b_7 i_8 Q w) ?_ ?_
    · skip
      exact pt_sound hmix _ (Eq.mp (by kernel_rfl) h)
    · intro ρ w h
      obtain ⟨n_0, e0, h⟩ := asI_el h
      obtain ⟨cut_1, e1, h⟩ := asI_el h
      obtain ⟨c_2, e2, h⟩ := asI_el h
      obtain ⟨b_7, e7, h⟩ := asL_el h
      obtain ⟨i_8, e8, h⟩ := asI_el h
      refine reroot e0 (reroot (upd_other e1 rfl) (reroot (upd_other (upd_other e2 rfl) rfl) (reroot (upd_other (upd_other (upd_other e7 rfl) rfl) rfl) (reroot (upd_other (upd_other (upd_other (upd_other e8 rfl) rfl) rfl) rfl) ?_))))
      refine wpc_block ?_
      obtain ⟨I, μ, hI, hr⟩ := h
      refine wpc_loopS (α := Int) (fun s ρ => ρ 8 = .int .i64 s ∧ ρ 0 = .int .i64 n_0 ∧ ρ 1 = .int .i64 cut_1 ∧ ρ 2 = .int .u8 c_2 ∧ ρ 7 = .slice b_7.a b_7.len b_7.cap) (fun s w => I s w) (fun s w => μ s w) i_8 ⟨rfl, rfl, rfl, rfl, rfl⟩ hI ?_
      rintro i_8 ρ w ⟨e8, e0, e1, e2, e7⟩ hI
      have h := hr i_8 w hI
      clear hr
      obtain ⟨nx1, hnx⟩ : ∃ nx : Int → Int → Int → Sl → Int → World → Prop, nx = (fun n_0' cut_1' c_2' b_7' i_8' w' => (n_0' = n_0 ∧ cut_1' = cut_1 ∧ c_2' = c_2 ∧ b_7' = b_7) ∧ I i_8' w' ∧ μ i_8' w' < μ i_8 w) := ⟨_, rfl⟩
      rw [← hnx] at h
      refine wpc_norm (M := fun ρ w => asI .i64 (ρ 0) fun n_0 => asI .i64 (ρ 1) fun cut_1 => asI .u8 (ρ 2) fun c_2 => asL (ρ 7) fun b_7 => asI .i64 (ρ 8) fun i_8 => nx1 n_0 cut_1 c_2 b_7 i_8 w) ?_ (fun ρ w h => ?_)
      · skip
        refine reroot e0 (reroot (upd_other e1 rfl) (reroot (upd_other (upd_other e2 rfl) rfl) (reroot (upd_other (upd_other (upd_other e7 rfl) rfl) rfl) (reroot (upd_other (upd_other (upd_other (upd_other e8 rfl) rfl) rfl) rfl) ?_))))
        exact pt_sound hmix _ (Eq.mp (by kernel_rfl) h)
      · skip
        obtain ⟨n_0', e0', h⟩ := asI_el h
        obtain ⟨cut_1', e1', h⟩ := asI_el h
        obtain ⟨c_2', e2', h⟩ := asI_el h
        obtain ⟨b_7', e7', h⟩ := asL_el h
        obtain ⟨i_8', e8', h⟩ := asI_el h
        rw [hnx] at h
        obtain ⟨hu, hI2, hμ⟩ := h
        obtain ⟨rfl, rfl, rfl, rfl⟩ := hu
        exact ⟨i_8', ⟨e8', e0', e1', e2', e7'⟩, hI2, hμ⟩
  · intro ρ w h
    obtain ⟨cut_1, e1, h⟩ := asI_el h
    obtain ⟨b_7, e7, h⟩ := asL_el h
    refine reroot e1 (reroot (upd_other e7 rfl) ?_)
    exact pt_sound hmix _ (Eq.mp (by kernel_rfl) h)

/-! trove/trovelaw3.ShaCuts -/
def trovelaw3_ShaCuts.j3 (d_0 : Sl) (t3 : (Option Addr)) (Q : Value → World → Prop) (w : World) : Prop :=
  Calls Try.prog 59 ⟨[]⟩ w fun e1 w2 =>
  ∃ r3 : (Option Addr), e1 = .returned (.pointer r3) ∧
  (2 : Int) ≠ 0 ∧
  lt (IntKind.i64.wrap (Int.tdiv ((d_0.len : Nat) : Int) 2)) fun x4 =>
  bd x4 d_0.cap fun n5 =>
  lt (⟨cutA d_0.a d_0.cap 0 1, n5 - 0, d_0.cap - 0⟩ : Sl) fun s6 =>
  Calls Try.prog 60 ⟨[.pointer r3, .slice s6.a s6.len s6.cap]⟩ w2 fun e7 w8 =>
  e7 = .returned (.tuple ⟨[]⟩) ∧
  Calls Try.prog 63 ⟨[.pointer r3]⟩ w8 fun e9 w10 =>
  ∃ r11 : (Option Addr), e9 = .returned (.pointer r11) ∧
  (2 : Int) ≠ 0 ∧
  lt (IntKind.i64.wrap (Int.tdiv ((d_0.len : Nat) : Int) 2)) fun x12 =>
  bd x12 d_0.len fun n13 =>
  lt (⟨cutA d_0.a d_0.cap n13 1, d_0.len - n13, d_0.cap - n13⟩ : Sl) fun s14 =>
  Calls Try.prog 60 ⟨[.pointer r3, .slice s14.a s14.len s14.cap]⟩ w10 fun e15 w16 =>
  e15 = .returned (.tuple ⟨[]⟩) ∧
  br (Option.isNone r11) (
  Q (.bool false) w16) (
  (2 : Int) ≠ 0 ∧
  lt (IntKind.i64.wrap (Int.tdiv ((d_0.len : Nat) : Int) 2)) fun x17 =>
  bd x17 d_0.len fun n18 =>
  lt (⟨cutA d_0.a d_0.cap n18 1, d_0.len - n18, d_0.cap - n18⟩ : Sl) fun s19 =>
  Calls Try.prog 60 ⟨[.pointer r11, .slice s19.a s19.len s19.cap]⟩ w16 fun e20 w21 =>
  e20 = .returned (.tuple ⟨[]⟩) ∧
  Calls Try.prog 57 ⟨[.slice d_0.a d_0.len d_0.cap]⟩ w21 fun e22 w23 =>
  ∃ r24 : (Array Value), e22 = .returned (.agg r24) ∧
  lt (⟨World.heapSize w23, 0, none⟩ : Addr) fun a25 =>
  lt (World.alloc w23 (.cells (zc Try.prog 51) 51)) fun w26 =>
  (r24).size = 20 ∧
  stA w26 a25 r24 fun w27 =>
  lt (World.drew w27) fun w28 =>
  (Calls Try.prog 62 ⟨[.pointer t3]⟩ w28 fun e29 w30 =>
  ∃ r31 : (Array Value), e29 = .returned (.agg r31) ∧
  ldA w30 a25 20 fun c32 =>
  eqA .u8 20 r31 c32 fun x33 =>
  br x33 (
  (Calls Try.prog 62 ⟨[.pointer t3]⟩ w30 fun e34 w35 =>
  ∃ r36 : (Array Value), e34 = .returned (.agg r36) ∧
  ldA w35 a25 20 fun c37 =>
  eqA .u8 20 r36 c37 fun x38 =>
  br x38 (
  (Calls Try.prog 62 ⟨[.pointer r3]⟩ w35 fun e39 w40 =>
  ∃ r41 : (Array Value), e39 = .returned (.agg r41) ∧
  ldA w40 a25 20 fun c42 =>
  eqA .u8 20 r41 c42 fun x43 =>
  br x43 (
  (Calls Try.prog 62 ⟨[.pointer r11]⟩ w40 fun e44 w45 =>
  ∃ r46 : (Array Value), e44 = .returned (.agg r46) ∧
  ldA w45 a25 20 fun c47 =>
  eqA .u8 20 r46 c47 fun x48 =>
  br x48 (
  Calls Try.prog 61 ⟨[.pointer t3]⟩ w45 fun e49 w50 =>
  ∃ r51 : Int, e49 = .returned (.int .i64 r51) ∧
  Q (.bool ((r51 : Int) == ((d_0.len : Nat) : Int))) w50) (
  Q (.bool false) w45)) ∧ (
  ldA w40 a25 20 fun c52 =>
  Calls Try.prog 62 ⟨[.pointer r11]⟩ w40 fun e53 w54 =>
  ∃ r55 : (Array Value), e53 = .returned (.agg r55) ∧
  eqA .u8 20 r55 c52 fun x56 =>
  br x56 (
  Calls Try.prog 61 ⟨[.pointer t3]⟩ w54 fun e57 w58 =>
  ∃ r59 : Int, e57 = .returned (.int .i64 r59) ∧
  Q (.bool ((r59 : Int) == ((d_0.len : Nat) : Int))) w58) (
  Q (.bool false) w54))) (
  (Q (.bool false) w40) ∧ (
  Q (.bool false) w40))) ∧ (
  ldA w35 a25 20 fun c60 =>
  Calls Try.prog 62 ⟨[.pointer r3]⟩ w35 fun e61 w62 =>
  ∃ r63 : (Array Value), e61 = .returned (.agg r63) ∧
  eqA .u8 20 r63 c60 fun x64 =>
  br x64 (
  (Calls Try.prog 62 ⟨[.pointer r11]⟩ w62 fun e65 w66 =>
  ∃ r67 : (Array Value), e65 = .returned (.agg r67) ∧
  ldA w66 a25 20 fun c68 =>
  eqA .u8 20 r67 c68 fun x69 =>
  br x69 (
  Calls Try.prog 61 ⟨[.pointer t3]⟩ w66 fun e70 w71 =>
  ∃ r72 : Int, e70 = .returned (.int .i64 r72) ∧
  Q (.bool ((r72 : Int) == ((d_0.len : Nat) : Int))) w71) (
  Q (.bool false) w66)) ∧ (
  ldA w62 a25 20 fun c73 =>
  Calls Try.prog 62 ⟨[.pointer r11]⟩ w62 fun e74 w75 =>
  ∃ r76 : (Array Value), e74 = .returned (.agg r76) ∧
  eqA .u8 20 r76 c73 fun x77 =>
  br x77 (
  Calls Try.prog 61 ⟨[.pointer t3]⟩ w75 fun e78 w79 =>
  ∃ r80 : Int, e78 = .returned (.int .i64 r80) ∧
  Q (.bool ((r80 : Int) == ((d_0.len : Nat) : Int))) w79) (
  Q (.bool false) w75))) (
  (Q (.bool false) w62) ∧ (
  Q (.bool false) w62)))) (
  ((Q (.bool false) w35) ∧ (
  Q (.bool false) w35)) ∧ (
  (Q (.bool false) w35) ∧ (
  Q (.bool false) w35)))) ∧ (
  ldA w30 a25 20 fun c81 =>
  Calls Try.prog 62 ⟨[.pointer t3]⟩ w30 fun e82 w83 =>
  ∃ r84 : (Array Value), e82 = .returned (.agg r84) ∧
  eqA .u8 20 r84 c81 fun x85 =>
  br x85 (
  (Calls Try.prog 62 ⟨[.pointer r3]⟩ w83 fun e86 w87 =>
  ∃ r88 : (Array Value), e86 = .returned (.agg r88) ∧
  ldA w87 a25 20 fun c89 =>
  eqA .u8 20 r88 c89 fun x90 =>
  br x90 (
  (Calls Try.prog 62 ⟨[.pointer r11]⟩ w87 fun e91 w92 =>
  ∃ r93 : (Array Value), e91 = .returned (.agg r93) ∧
  ldA w92 a25 20 fun c94 =>
  eqA .u8 20 r93 c94 fun x95 =>
  br x95 (
  Calls Try.prog 61 ⟨[.pointer t3]⟩ w92 fun e96 w97 =>
  ∃ r98 : Int, e96 = .returned (.int .i64 r98) ∧
  Q (.bool ((r98 : Int) == ((d_0.len : Nat) : Int))) w97) (
  Q (.bool false) w92)) ∧ (
  ldA w87 a25 20 fun c99 =>
  Calls Try.prog 62 ⟨[.pointer r11]⟩ w87 fun e100 w101 =>
  ∃ r102 : (Array Value), e100 = .returned (.agg r102) ∧
  eqA .u8 20 r102 c99 fun x103 =>
  br x103 (
  Calls Try.prog 61 ⟨[.pointer t3]⟩ w101 fun e104 w105 =>
  ∃ r106 : Int, e104 = .returned (.int .i64 r106) ∧
  Q (.bool ((r106 : Int) == ((d_0.len : Nat) : Int))) w105) (
  Q (.bool false) w101))) (
  (Q (.bool false) w87) ∧ (
  Q (.bool false) w87))) ∧ (
  ldA w83 a25 20 fun c107 =>
  Calls Try.prog 62 ⟨[.pointer r3]⟩ w83 fun e108 w109 =>
  ∃ r110 : (Array Value), e108 = .returned (.agg r110) ∧
  eqA .u8 20 r110 c107 fun x111 =>
  br x111 (
  (Calls Try.prog 62 ⟨[.pointer r11]⟩ w109 fun e112 w113 =>
  ∃ r114 : (Array Value), e112 = .returned (.agg r114) ∧
  ldA w113 a25 20 fun c115 =>
  eqA .u8 20 r114 c115 fun x116 =>
  br x116 (
  Calls Try.prog 61 ⟨[.pointer t3]⟩ w113 fun e117 w118 =>
  ∃ r119 : Int, e117 = .returned (.int .i64 r119) ∧
  Q (.bool ((r119 : Int) == ((d_0.len : Nat) : Int))) w118) (
  Q (.bool false) w113)) ∧ (
  ldA w109 a25 20 fun c120 =>
  Calls Try.prog 62 ⟨[.pointer r11]⟩ w109 fun e121 w122 =>
  ∃ r123 : (Array Value), e121 = .returned (.agg r123) ∧
  eqA .u8 20 r123 c120 fun x124 =>
  br x124 (
  Calls Try.prog 61 ⟨[.pointer t3]⟩ w122 fun e125 w126 =>
  ∃ r127 : Int, e125 = .returned (.int .i64 r127) ∧
  Q (.bool ((r127 : Int) == ((d_0.len : Nat) : Int))) w126) (
  Q (.bool false) w122))) (
  (Q (.bool false) w109) ∧ (
  Q (.bool false) w109)))) (
  ((Q (.bool false) w83) ∧ (
  Q (.bool false) w83)) ∧ (
  (Q (.bool false) w83) ∧ (
  Q (.bool false) w83))))) (
  (((Q (.bool false) w30) ∧ (
  Q (.bool false) w30)) ∧ (
  (Q (.bool false) w30) ∧ (
  Q (.bool false) w30))) ∧ (
  ((Q (.bool false) w30) ∧ (
  Q (.bool false) w30)) ∧ (
  (Q (.bool false) w30) ∧ (
  Q (.bool false) w30))))) ∧ (
  ldA w28 a25 20 fun c128 =>
  Calls Try.prog 62 ⟨[.pointer t3]⟩ w28 fun e129 w130 =>
  ∃ r131 : (Array Value), e129 = .returned (.agg r131) ∧
  eqA .u8 20 r131 c128 fun x132 =>
  br x132 (
  (Calls Try.prog 62 ⟨[.pointer t3]⟩ w130 fun e133 w134 =>
  ∃ r135 : (Array Value), e133 = .returned (.agg r135) ∧
  ldA w134 a25 20 fun c136 =>
  eqA .u8 20 r135 c136 fun x137 =>
  br x137 (
  (Calls Try.prog 62 ⟨[.pointer r3]⟩ w134 fun e138 w139 =>
  ∃ r140 : (Array Value), e138 = .returned (.agg r140) ∧
  ldA w139 a25 20 fun c141 =>
  eqA .u8 20 r140 c141 fun x142 =>
  br x142 (
  (Calls Try.prog 62 ⟨[.pointer r11]⟩ w139 fun e143 w144 =>
  ∃ r145 : (Array Value), e143 = .returned (.agg r145) ∧
  ldA w144 a25 20 fun c146 =>
  eqA .u8 20 r145 c146 fun x147 =>
  br x147 (
  Calls Try.prog 61 ⟨[.pointer t3]⟩ w144 fun e148 w149 =>
  ∃ r150 : Int, e148 = .returned (.int .i64 r150) ∧
  Q (.bool ((r150 : Int) == ((d_0.len : Nat) : Int))) w149) (
  Q (.bool false) w144)) ∧ (
  ldA w139 a25 20 fun c151 =>
  Calls Try.prog 62 ⟨[.pointer r11]⟩ w139 fun e152 w153 =>
  ∃ r154 : (Array Value), e152 = .returned (.agg r154) ∧
  eqA .u8 20 r154 c151 fun x155 =>
  br x155 (
  Calls Try.prog 61 ⟨[.pointer t3]⟩ w153 fun e156 w157 =>
  ∃ r158 : Int, e156 = .returned (.int .i64 r158) ∧
  Q (.bool ((r158 : Int) == ((d_0.len : Nat) : Int))) w157) (
  Q (.bool false) w153))) (
  (Q (.bool false) w139) ∧ (
  Q (.bool false) w139))) ∧ (
  ldA w134 a25 20 fun c159 =>
  Calls Try.prog 62 ⟨[.pointer r3]⟩ w134 fun e160 w161 =>
  ∃ r162 : (Array Value), e160 = .returned (.agg r162) ∧
  eqA .u8 20 r162 c159 fun x163 =>
  br x163 (
  (Calls Try.prog 62 ⟨[.pointer r11]⟩ w161 fun e164 w165 =>
  ∃ r166 : (Array Value), e164 = .returned (.agg r166) ∧
  ldA w165 a25 20 fun c167 =>
  eqA .u8 20 r166 c167 fun x168 =>
  br x168 (
  Calls Try.prog 61 ⟨[.pointer t3]⟩ w165 fun e169 w170 =>
  ∃ r171 : Int, e169 = .returned (.int .i64 r171) ∧
  Q (.bool ((r171 : Int) == ((d_0.len : Nat) : Int))) w170) (
  Q (.bool false) w165)) ∧ (
  ldA w161 a25 20 fun c172 =>
  Calls Try.prog 62 ⟨[.pointer r11]⟩ w161 fun e173 w174 =>
  ∃ r175 : (Array Value), e173 = .returned (.agg r175) ∧
  eqA .u8 20 r175 c172 fun x176 =>
  br x176 (
  Calls Try.prog 61 ⟨[.pointer t3]⟩ w174 fun e177 w178 =>
  ∃ r179 : Int, e177 = .returned (.int .i64 r179) ∧
  Q (.bool ((r179 : Int) == ((d_0.len : Nat) : Int))) w178) (
  Q (.bool false) w174))) (
  (Q (.bool false) w161) ∧ (
  Q (.bool false) w161)))) (
  ((Q (.bool false) w134) ∧ (
  Q (.bool false) w134)) ∧ (
  (Q (.bool false) w134) ∧ (
  Q (.bool false) w134)))) ∧ (
  ldA w130 a25 20 fun c180 =>
  Calls Try.prog 62 ⟨[.pointer t3]⟩ w130 fun e181 w182 =>
  ∃ r183 : (Array Value), e181 = .returned (.agg r183) ∧
  eqA .u8 20 r183 c180 fun x184 =>
  br x184 (
  (Calls Try.prog 62 ⟨[.pointer r3]⟩ w182 fun e185 w186 =>
  ∃ r187 : (Array Value), e185 = .returned (.agg r187) ∧
  ldA w186 a25 20 fun c188 =>
  eqA .u8 20 r187 c188 fun x189 =>
  br x189 (
  (Calls Try.prog 62 ⟨[.pointer r11]⟩ w186 fun e190 w191 =>
  ∃ r192 : (Array Value), e190 = .returned (.agg r192) ∧
  ldA w191 a25 20 fun c193 =>
  eqA .u8 20 r192 c193 fun x194 =>
  br x194 (
  Calls Try.prog 61 ⟨[.pointer t3]⟩ w191 fun e195 w196 =>
  ∃ r197 : Int, e195 = .returned (.int .i64 r197) ∧
  Q (.bool ((r197 : Int) == ((d_0.len : Nat) : Int))) w196) (
  Q (.bool false) w191)) ∧ (
  ldA w186 a25 20 fun c198 =>
  Calls Try.prog 62 ⟨[.pointer r11]⟩ w186 fun e199 w200 =>
  ∃ r201 : (Array Value), e199 = .returned (.agg r201) ∧
  eqA .u8 20 r201 c198 fun x202 =>
  br x202 (
  Calls Try.prog 61 ⟨[.pointer t3]⟩ w200 fun e203 w204 =>
  ∃ r205 : Int, e203 = .returned (.int .i64 r205) ∧
  Q (.bool ((r205 : Int) == ((d_0.len : Nat) : Int))) w204) (
  Q (.bool false) w200))) (
  (Q (.bool false) w186) ∧ (
  Q (.bool false) w186))) ∧ (
  ldA w182 a25 20 fun c206 =>
  Calls Try.prog 62 ⟨[.pointer r3]⟩ w182 fun e207 w208 =>
  ∃ r209 : (Array Value), e207 = .returned (.agg r209) ∧
  eqA .u8 20 r209 c206 fun x210 =>
  br x210 (
  (Calls Try.prog 62 ⟨[.pointer r11]⟩ w208 fun e211 w212 =>
  ∃ r213 : (Array Value), e211 = .returned (.agg r213) ∧
  ldA w212 a25 20 fun c214 =>
  eqA .u8 20 r213 c214 fun x215 =>
  br x215 (
  Calls Try.prog 61 ⟨[.pointer t3]⟩ w212 fun e216 w217 =>
  ∃ r218 : Int, e216 = .returned (.int .i64 r218) ∧
  Q (.bool ((r218 : Int) == ((d_0.len : Nat) : Int))) w217) (
  Q (.bool false) w212)) ∧ (
  ldA w208 a25 20 fun c219 =>
  Calls Try.prog 62 ⟨[.pointer r11]⟩ w208 fun e220 w221 =>
  ∃ r222 : (Array Value), e220 = .returned (.agg r222) ∧
  eqA .u8 20 r222 c219 fun x223 =>
  br x223 (
  Calls Try.prog 61 ⟨[.pointer t3]⟩ w221 fun e224 w225 =>
  ∃ r226 : Int, e224 = .returned (.int .i64 r226) ∧
  Q (.bool ((r226 : Int) == ((d_0.len : Nat) : Int))) w225) (
  Q (.bool false) w221))) (
  (Q (.bool false) w208) ∧ (
  Q (.bool false) w208)))) (
  ((Q (.bool false) w182) ∧ (
  Q (.bool false) w182)) ∧ (
  (Q (.bool false) w182) ∧ (
  Q (.bool false) w182))))) (
  (((Q (.bool false) w130) ∧ (
  Q (.bool false) w130)) ∧ (
  (Q (.bool false) w130) ∧ (
  Q (.bool false) w130))) ∧ (
  ((Q (.bool false) w130) ∧ (
  Q (.bool false) w130)) ∧ (
  (Q (.bool false) w130) ∧ (
  Q (.bool false) w130))))))

def trovelaw3_ShaCuts.b1 (d_0 : Sl) (t3 : (Option Addr)) (t4 : Int) (Q : Value → World → Prop) (nx1 : Sl → (Option Addr) → Int → World → Prop) (w : World) : Prop :=
  br (decide ((t4 : Int) < ((d_0.len : Nat) : Int))) (
  lt (IntKind.i64.wrap (t4 + 1)) fun x227 =>
  bd x227 d_0.cap fun n228 =>
  bd t4 n228 fun n229 =>
  lt (⟨cutA d_0.a d_0.cap n229 1, n228 - n229, d_0.cap - n229⟩ : Sl) fun s230 =>
  Calls Try.prog 60 ⟨[.pointer t3, .slice s230.a s230.len s230.cap]⟩ w fun e231 w232 =>
  e231 = .returned (.tuple ⟨[]⟩) ∧
  Calls Try.prog 60 ⟨[.pointer t3, .slice none 0 0]⟩ w232 fun e233 w234 =>
  e233 = .returned (.tuple ⟨[]⟩) ∧
  (16 : Int) ≠ 0 ∧
  lt (Int.tmod t4 16) fun x235 =>
  br ((x235 : Int) == 0) (
  Calls Try.prog 62 ⟨[.pointer t3]⟩ w234 fun e236 w237 =>
  ∃ r238 : (Array Value), e236 = .returned (.agg r238) ∧
  lt (IntKind.i64.wrap (t4 + 1)) fun x239 =>
  nx1 d_0 t3 x239 w237) (
  lt (IntKind.i64.wrap (t4 + 1)) fun x240 =>
  nx1 d_0 t3 x240 w234)) (
  trovelaw3_ShaCuts.j3 d_0 t3 Q w)

def trovelaw3_ShaCuts.l1 (d_0 : Sl) (t3 : (Option Addr)) (t4 : Int) (Q : Value → World → Prop) (w : World) : Prop :=
  ∃ (I : Int → World → Prop) (μ : Int → World → Nat), I t4 w ∧ ∀ t4 : Int, ∀ w : World, I t4 w → trovelaw3_ShaCuts.b1 d_0 t3 t4 Q (fun d_0' t3' t4' w' => (d_0' = d_0 ∧ t3' = t3) ∧ I t4' w' ∧ μ t4' w' < μ t4 w) w

def trovelaw3_ShaCuts.j4 (d_0 : Sl) (t3 : (Option Addr)) (t4 : Int) (Q : Value → World → Prop) (w : World) : Prop :=
  trovelaw3_ShaCuts.l1 d_0 t3 t4 Q w

def trovelaw3_ShaCuts.j2 (d_0 : Sl) (t3 : (Option Addr)) (Q : Value → World → Prop) (w : World) : Prop :=
  trovelaw3_ShaCuts.j4 d_0 t3 0 Q w

def trovelaw3_ShaCuts.j1 (d_0 : Sl) (Q : Value → World → Prop) (w : World) : Prop :=
  br (decide ((((d_0.len : Nat) : Int) : Int) > 300)) (
  Q (.bool true) w) (
  Calls Try.prog 59 ⟨[]⟩ w fun e241 w242 =>
  ∃ r243 : (Option Addr), e241 = .returned (.pointer r243) ∧
  trovelaw3_ShaCuts.j2 d_0 r243 Q w242)

def trovelaw3_ShaCuts (d_0 : Sl) (Q : Value → World → Prop) (w : World) : Prop :=
  Calls Try.prog 56 ⟨[]⟩ w fun e244 w245 =>
  ∃ r246 : Bool, e244 = .returned (.bool r246) ∧
  br (!r246) (
  Q (.bool false) w245) (
  trovelaw3_ShaCuts.j1 d_0 Q w245)

theorem trovelaw3_ShaCuts.ok (d_0 : Sl) (Q : Value → World → Prop) (w : World) (h : trovelaw3_ShaCuts d_0 Q w) : Calls Try.prog 10 ⟨[.slice d_0.a d_0.len d_0.cap]⟩ w (Ret Q) := by
  refine calls_of_wpc [.tmp 2] Try.func10 rfl rfl rfl rfl ?_
  refine wpc_pre2 hmix (fun ρ w => asL (ρ 0) fun d_0 => trovelaw3_ShaCuts.j1 d_0 Q w) (Eq.mp (by kernel_rfl) h) ?_
  intro ρ w h
  obtain ⟨d_0, e0, h⟩ := asL_el h
  refine reroot e0 ?_
  refine wpc_pre2 hmix (fun ρ w => asL (ρ 0) fun d_0 => asP (ρ 3) fun t3 => trovelaw3_ShaCuts.j2 d_0 t3 Q w) (Eq.mp (by kernel_rfl) h) ?_
  intro ρ w h
  obtain ⟨d_0, e0, h⟩ := asL_el h
  obtain ⟨t3, e3, h⟩ := asP_el h
  refine reroot e0 (reroot (upd_other e3 rfl) ?_)
  refine wpc_seq (fun ρ w => asL (ρ 0) fun d_0 => asP (ρ 3) fun t3 => trovelaw3_ShaCuts.j3 d_0 t3 Q w) ?_ ?_
  · skip
    refine wpc_seq (fun ρ w => asL (ρ 0) fun d_0 => asP (ρ 3) fun t3 => asI .i64 (ρ 4) fun t4 => trovelaw3_ShaCuts.j4 d_0 t3 t4 Q w) ?_ ?_
    · skip
      exact pt_sound hmix _ (Eq.mp (by kernel_rfl) h)
    · intro ρ w h
      obtain ⟨d_0, e0, h⟩ := asL_el h
      obtain ⟨t3, e3, h⟩ := asP_el h
      obtain ⟨t4, e4, h⟩ := asI_el h
      refine reroot e0 (reroot (upd_other e3 rfl) (reroot (upd_other (upd_other e4 rfl) rfl) ?_))
      refine wpc_block ?_
      obtain ⟨I, μ, hI, hr⟩ := h
      refine wpc_loopS (α := Int) (fun s ρ => ρ 4 = .int .i64 s ∧ ρ 0 = .slice d_0.a d_0.len d_0.cap ∧ ρ 3 = .pointer t3) (fun s w => I s w) (fun s w => μ s w) t4 ⟨rfl, rfl, rfl⟩ hI ?_
      rintro t4 ρ w ⟨e4, e0, e3⟩ hI
      have h := hr t4 w hI
      clear hr
      obtain ⟨nx1, hnx⟩ : ∃ nx : Sl → (Option Addr) → Int → World → Prop, nx = (fun d_0' t3' t4' w' => (d_0' = d_0 ∧ t3' = t3) ∧ I t4' w' ∧ μ t4' w' < μ t4 w) := ⟨_, rfl⟩
      rw [← hnx] at h
      refine wpc_norm (M := fun ρ w => asL (ρ 0) fun d_0 => asP (ρ 3) fun t3 => asI .i64 (ρ 4) fun t4 => nx1 d_0 t3 t4 w) ?_ (fun ρ w h => ?_)
      · skip
        refine reroot e0 (reroot (upd_other e3 rfl) (reroot (upd_other (upd_other e4 rfl) rfl) ?_))
        exact pt_sound hmix _ (Eq.mp (by kernel_rfl) h)
      · skip
        obtain ⟨d_0', e0', h⟩ := asL_el h
        obtain ⟨t3', e3', h⟩ := asP_el h
        obtain ⟨t4', e4', h⟩ := asI_el h
        rw [hnx] at h
        obtain ⟨hu, hI2, hμ⟩ := h
        obtain ⟨rfl, rfl⟩ := hu
        exact ⟨t4', ⟨e4', e0', e3'⟩, hI2, hμ⟩
  · intro ρ w h
    obtain ⟨d_0, e0, h⟩ := asL_el h
    obtain ⟨t3, e3, h⟩ := asP_el h
    refine reroot e0 (reroot (upd_other e3 rfl) ?_)
    exact pt_sound hmix _ (Eq.mp (by kernel_rfl) h)

end Go.Proofs.Ytkajimndclhgaaa
