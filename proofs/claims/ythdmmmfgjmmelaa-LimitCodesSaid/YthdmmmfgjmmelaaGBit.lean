/- PRINTED BY gen.py (own work): what calls come to, and the proofs of it. -/
import Derived.Test.YthdmmmfgjmmelaaVcJ
import Derived.Test.YthdmmmfgjmmelaaProg
namespace Go.Proofs.Ythdmmmfgjmmelaa
open Go Go.Proofs
set_option linter.unusedVariables false
set_option maxRecDepth 100000

/-! trove/bits.NewWriter -/
def bits_NewWriter  (Q : Value → World → Prop) (w : World) : Prop :=
  lt (⟨World.heapSize w, 0, none⟩ : Addr) fun a1 =>
  lt (World.alloc w (.cells (⟨[.slice none 0 0, .int .u64 0, .int .i64 0]⟩ : Array Value) 92)) fun w2 =>
  Q (.pointer (some a1)) w2

theorem bits_NewWriter.ok  (Q : Value → World → Prop) (w : World) (h : bits_NewWriter  Q w) : Calls Try.prog 18 ⟨[]⟩ w (Ret Q) := by
  refine calls_of_wpc [.tmp 0] Try.func18 rfl rfl rfl rfl ?_
  exact pt_sound hmix _ (Eq.mp (by kernel_rfl) h)

/-! (*trove/bits.Writer).Put -/
def bits_Writer_Put.b1 (d_0 : (Option Addr)) (Q : Value → World → Prop) (nx1 : (Option Addr) → World → Prop) (w : World) : Prop :=
  nz d_0 fun a1 =>
  ldI .i64 w (Addr.add a1 2) fun x2 =>
  br (decide ((x2 : Int) ≥ 8)) (
  lt (World.drew w) fun w3 =>
  nz d_0 fun a4 =>
  ldL w3 (Addr.add a4 0) fun x5 =>
  nz d_0 fun a6 =>
  ldI .u64 w3 (Addr.add a6 1) fun x7 =>
  lt (IntKind.u8.wrap x7) fun x8 =>
  lt (⟨World.heapSize w3, 0, none⟩ : Addr) fun a9 =>
  lt (World.alloc w3 (.cells ⟨[.int .u8 x8]⟩ 5)) fun w10 =>
  rdO w10 (some a9) (1 * 1) fun c11 =>
  apK Try.prog 5 w10 x5.a x5.len x5.cap 1 c11 fun s12 w13 =>
  nz d_0 fun a14 =>
  st w13 (Addr.add a14 0) (.slice s12.a s12.len s12.cap) fun w15 =>
  nz d_0 fun a16 =>
  ldI .u64 w15 (Addr.add a16 1) fun x17 =>
  (0 : Int) ≤ 8 ∧
  lt (shrV .u64 x17 8) fun x18 =>
  nz d_0 fun a19 =>
  st w15 (Addr.add a19 1) (.int .u64 x18) fun w20 =>
  nz d_0 fun a21 =>
  ldI .i64 w20 (Addr.add a21 2) fun x22 =>
  lt (IntKind.i64.wrap (x22 - 8)) fun x23 =>
  nz d_0 fun a24 =>
  st w20 (Addr.add a24 2) (.int .i64 x23) fun w25 =>
  nx1 d_0 w25) (
  Q (.tuple ⟨[]⟩) w)

def bits_Writer_Put.l1 (d_0 : (Option Addr)) (Q : Value → World → Prop) (w : World) : Prop :=
  ∃ (I : World → Prop) (μ : World → Nat), I  w ∧ ∀ w : World, I  w → bits_Writer_Put.b1 d_0 Q (fun d_0' w' => (d_0' = d_0) ∧ I  w' ∧ μ  w' < μ  w) w

def bits_Writer_Put.j2 (d_0 : (Option Addr)) (Q : Value → World → Prop) (w : World) : Prop :=
  bits_Writer_Put.l1 d_0 Q w

def bits_Writer_Put.j1 (d_0 : (Option Addr)) (i_1 : Int) (t2 : Int) (Q : Value → World → Prop) (w : World) : Prop :=
  lt (World.drew w) fun w26 =>
  nz d_0 fun a27 =>
  ldI .u64 w26 (Addr.add a27 1) fun x28 =>
  lt (IntKind.u64.wrap i_1) fun x29 =>
  (0 : Int) ≤ t2 ∧
  lt (shlV .u64 1 t2) fun x30 =>
  lt (IntKind.u64.wrap (x30 - 1)) fun x31 =>
  lt (andV .u64 x29 x31) fun x32 =>
  nz d_0 fun a33 =>
  ldI .i64 w26 (Addr.add a33 2) fun x34 =>
  (0 : Int) ≤ x34 ∧
  lt (shlV .u64 x32 x34) fun x35 =>
  lt (orV .u64 x28 x35) fun x36 =>
  nz d_0 fun a37 =>
  st w26 (Addr.add a37 1) (.int .u64 x36) fun w38 =>
  nz d_0 fun a39 =>
  ldI .i64 w38 (Addr.add a39 2) fun x40 =>
  lt (IntKind.i64.wrap (x40 + t2)) fun x41 =>
  nz d_0 fun a42 =>
  st w38 (Addr.add a42 2) (.int .i64 x41) fun w43 =>
  bits_Writer_Put.j2 d_0 Q w43

def bits_Writer_Put (d_0 : (Option Addr)) (i_1 : Int) (t2 : Int) (Q : Value → World → Prop) (w : World) : Prop :=
  br (decide ((t2 : Int) < 0)) (
  Q (.tuple ⟨[]⟩) w) (
  br (decide ((t2 : Int) > 24)) (
  Q (.tuple ⟨[]⟩) w) (
  bits_Writer_Put.j1 d_0 i_1 t2 Q w))

theorem bits_Writer_Put.ok (d_0 : (Option Addr)) (i_1 : Int) (t2 : Int) (Q : Value → World → Prop) (w : World) (h : bits_Writer_Put d_0 i_1 t2 Q w) : Calls Try.prog 91 ⟨[.pointer d_0, .int .i64 i_1, .int .i64 t2]⟩ w (Ret Q) := by
  refine calls_of_wpc [] Try.func91 rfl rfl rfl rfl ?_
  refine wpc_seq (fun ρ w => asP (ρ 0) fun d_0 => asI .i64 (ρ 1) fun i_1 => asI .i64 (ρ 2) fun t2 => bits_Writer_Put.j1 d_0 i_1 t2 Q w) ?_ ?_
  · skip
    exact pt_sound hmix _ (Eq.mp (by kernel_rfl) h)
  · intro ρ w h
    obtain ⟨d_0, e0, h⟩ := asP_el h
    obtain ⟨i_1, e1, h⟩ := asI_el h
    obtain ⟨t2, e2, h⟩ := asI_el h
    refine reroot e0 (reroot (upd_other e1 rfl) (reroot (upd_other (upd_other e2 rfl) rfl) ?_))
    refine wpc_pre2 hmix (fun ρ w => asP (ρ 0) fun d_0 => bits_Writer_Put.j2 d_0 Q w) (Eq.mp (by kernel_rfl) h) ?_
    intro ρ w h
    obtain ⟨d_0, e0, h⟩ := asP_el h
    refine reroot e0 ?_
    refine wpc_block ?_
    obtain ⟨I, μ, hI, hr⟩ := h
    refine wpc_loopS (α := Unit) (fun s ρ => ρ 0 = .pointer d_0) (fun s w => I  w) (fun s w => μ  w) () rfl hI ?_
    rintro ⟨⟩ ρ w e0 hI
    have h := hr  w hI
    clear hr
    obtain ⟨nx1, hnx⟩ : ∃ nx : (Option Addr) → World → Prop, nx = (fun d_0' w' => (d_0' = d_0) ∧ I  w' ∧ μ  w' < μ  w) := ⟨_, rfl⟩
    rw [← hnx] at h
    refine wpc_norm (M := fun ρ w => asP (ρ 0) fun d_0 => nx1 d_0 w) ?_ (fun ρ w h => ?_)
    · skip
      refine reroot e0 ?_
      exact pt_sound hmix _ (Eq.mp (by kernel_rfl) h)
    · skip
      obtain ⟨d_0', e0', h⟩ := asP_el h
      rw [hnx] at h
      obtain ⟨hu, hI2, hμ⟩ := h
      obtain rfl := hu
      exact ⟨(), e0', hI2, hμ⟩

/-! (*trove/bits.Writer).Code -/
def bits_Writer_Code (w_0 : (Option Addr)) (v_1 : Int) (n_2 : Int) (Q : Value → World → Prop) (w : World) : Prop :=
  Calls Try.prog 92 ⟨[.int .i64 v_1, .int .i64 n_2]⟩ w fun e1 w2 =>
  ∃ r3 : Int, e1 = .returned (.int .i64 r3) ∧
  Calls Try.prog 91 ⟨[.pointer w_0, .int .i64 r3, .int .i64 n_2]⟩ w2 fun e4 w5 =>
  e4 = .returned (.tuple ⟨[]⟩) ∧
  Q (.tuple ⟨[]⟩) w5

theorem bits_Writer_Code.ok (w_0 : (Option Addr)) (v_1 : Int) (n_2 : Int) (Q : Value → World → Prop) (w : World) (h : bits_Writer_Code w_0 v_1 n_2 Q w) : Calls Try.prog 49 ⟨[.pointer w_0, .int .i64 v_1, .int .i64 n_2]⟩ w (Ret Q) := by
  refine calls_of_wpc [] Try.func49 rfl rfl rfl rfl ?_
  exact pt_sound hmix _ (Eq.mp (by kernel_rfl) h)

/-! trove/bits.NewReader -/
def bits_NewReader (b_0 : Sl) (Q : Value → World → Prop) (w : World) : Prop :=
  Calls Try.prog 50 ⟨[.slice b_0.a b_0.len b_0.cap]⟩ w fun e1 w2 =>
  ∃ r3 : Sl, e1 = .returned (.slice r3.a r3.len r3.cap) ∧
  lt (⟨World.heapSize w2, 0, none⟩ : Addr) fun a4 =>
  lt (World.alloc w2 (.cells (⟨[.slice r3.a r3.len r3.cap, .int .i64 0]⟩ : Array Value) 96)) fun w5 =>
  Q (.pointer (some a4)) w5

theorem bits_NewReader.ok (b_0 : Sl) (Q : Value → World → Prop) (w : World) (h : bits_NewReader b_0 Q w) : Calls Try.prog 21 ⟨[.slice b_0.a b_0.len b_0.cap]⟩ w (Ret Q) := by
  refine calls_of_wpc [.tmp 2] Try.func21 rfl rfl rfl rfl ?_
  exact pt_sound hmix _ (Eq.mp (by kernel_rfl) h)

/-! (*trove/bits.Writer).Done -/
def bits_Writer_Done (w_0 : (Option Addr)) (Q : Value → World → Prop) (w : World) : Prop :=
  nz w_0 fun a1 =>
  ldL w (Addr.add a1 0) fun x2 =>
  Calls Try.prog 50 ⟨[.slice x2.a x2.len x2.cap]⟩ w fun e3 w4 =>
  ∃ r5 : Sl, e3 = .returned (.slice r5.a r5.len r5.cap) ∧
  nz w_0 fun a6 =>
  ldI .i64 w4 (Addr.add a6 2) fun x7 =>
  br (decide ((x7 : Int) > 0)) (
  nz w_0 fun a8 =>
  ldI .u64 w4 (Addr.add a8 1) fun x9 =>
  lt (IntKind.u8.wrap x9) fun x10 =>
  lt (⟨World.heapSize w4, 0, none⟩ : Addr) fun a11 =>
  lt (World.alloc w4 (.cells ⟨[.int .u8 x10]⟩ 5)) fun w12 =>
  rdO w12 (some a11) (1 * 1) fun c13 =>
  apK Try.prog 5 w12 r5.a r5.len r5.cap 1 c13 fun s14 w15 =>
  Calls Try.prog 51 ⟨[.slice s14.a s14.len s14.cap]⟩ w15 fun e16 w17 =>
  ∃ r18 : Sl, e16 = .returned (.slice r18.a r18.len r18.cap) ∧
  Q (.slice r18.a r18.len r18.cap) w17) (
  Calls Try.prog 51 ⟨[.slice r5.a r5.len r5.cap]⟩ w4 fun e19 w20 =>
  ∃ r21 : Sl, e19 = .returned (.slice r21.a r21.len r21.cap) ∧
  Q (.slice r21.a r21.len r21.cap) w20)

theorem bits_Writer_Done.ok (w_0 : (Option Addr)) (Q : Value → World → Prop) (w : World) (h : bits_Writer_Done w_0 Q w) : Calls Try.prog 22 ⟨[.pointer w_0]⟩ w (Ret Q) := by
  refine calls_of_wpc [.tmp 2] Try.func22 rfl rfl rfl rfl ?_
  exact pt_sound hmix _ (Eq.mp (by kernel_rfl) h)

/-! (*trove/bits.Reader).Get -/
def bits_Reader_Get.j3 (t6 : Int) (Q : Value → World → Prop) (w : World) : Prop :=
  Q (.tuple ⟨[.int .i64 t6, .bool true]⟩) w

def bits_Reader_Get.b1 (d_0 : (Option Addr)) (i_1 : Int) (t6 : Int) (t7 : Int) (Q : Value → World → Prop) (nx1 : (Option Addr) → Int → Int → Int → World → Prop) (w : World) : Prop :=
  br (decide ((t7 : Int) < i_1)) (
  nz d_0 fun a1 =>
  ldI .i64 w (Addr.add a1 1) fun x2 =>
  (8 : Int) ≠ 0 ∧
  lt (Int.tmod x2 8) fun x3 =>
  lt (IntKind.i64.wrap (8 - x3)) fun x4 =>
  lt (IntKind.i64.wrap (i_1 - t7)) fun x5 =>
  lt (if (x5 : Int) < x4 then x5 else x4) fun x6 =>
  lt (World.drew w) fun w7 =>
  nz d_0 fun a8 =>
  ldL w7 (Addr.add a8 0) fun x9 =>
  nz d_0 fun a10 =>
  ldI .i64 w7 (Addr.add a10 1) fun x11 =>
  (8 : Int) ≠ 0 ∧
  lt (IntKind.i64.wrap (Int.tdiv x11 8)) fun x12 =>
  ixS x9.a x9.len x12 1 fun a13 =>
  ldI .u8 w7 a13 fun x14 =>
  lt (IntKind.i64.wrap x14) fun x15 =>
  nz d_0 fun a16 =>
  ldI .i64 w7 (Addr.add a16 1) fun x17 =>
  (8 : Int) ≠ 0 ∧
  lt (Int.tmod x17 8) fun x18 =>
  (0 : Int) ≤ x18 ∧
  lt (shrV .i64 x15 x18) fun x19 =>
  (0 : Int) ≤ x6 ∧
  lt (shlV .i64 1 x6) fun x20 =>
  lt (IntKind.i64.wrap (x20 - 1)) fun x21 =>
  lt (andV .i64 x19 x21) fun x22 =>
  (0 : Int) ≤ t7 ∧
  lt (shlV .i64 x22 t7) fun x23 =>
  lt (orV .i64 t6 x23) fun x24 =>
  lt (IntKind.i64.wrap (t7 + x6)) fun x25 =>
  nz d_0 fun a26 =>
  ldI .i64 w7 (Addr.add a26 1) fun x27 =>
  lt (IntKind.i64.wrap (x27 + x6)) fun x28 =>
  nz d_0 fun a29 =>
  st w7 (Addr.add a29 1) (.int .i64 x28) fun w30 =>
  nx1 d_0 i_1 x24 x25 w30) (
  bits_Reader_Get.j3 t6 Q w)

def bits_Reader_Get.l1 (d_0 : (Option Addr)) (i_1 : Int) (t6 : Int) (t7 : Int) (Q : Value → World → Prop) (w : World) : Prop :=
  ∃ (I : Int → Int → World → Prop) (μ : Int → Int → World → Nat), I t6 t7 w ∧ ∀ t6 : Int, ∀ t7 : Int, ∀ w : World, I t6 t7 w → bits_Reader_Get.b1 d_0 i_1 t6 t7 Q (fun d_0' i_1' t6' t7' w' => (d_0' = d_0 ∧ i_1' = i_1) ∧ I t6' t7' w' ∧ μ t6' t7' w' < μ t6 t7 w) w

def bits_Reader_Get.j4 (d_0 : (Option Addr)) (i_1 : Int) (t6 : Int) (t7 : Int) (Q : Value → World → Prop) (w : World) : Prop :=
  bits_Reader_Get.l1 d_0 i_1 t6 t7 Q w

def bits_Reader_Get.j2 (d_0 : (Option Addr)) (i_1 : Int) (t6 : Int) (Q : Value → World → Prop) (w : World) : Prop :=
  bits_Reader_Get.j4 d_0 i_1 t6 0 Q w

def bits_Reader_Get.j1 (d_0 : (Option Addr)) (i_1 : Int) (Q : Value → World → Prop) (w : World) : Prop :=
  br (decide ((i_1 : Int) < 0)) (
  Q (.tuple ⟨[.int .i64 0, .bool false]⟩) w) (
  br (decide ((i_1 : Int) > 24)) (
  Q (.tuple ⟨[.int .i64 0, .bool false]⟩) w) (
  Calls Try.prog 93 ⟨[.pointer d_0]⟩ w fun e31 w32 =>
  ∃ r33 : Int, e31 = .returned (.int .i64 r33) ∧
  br (decide ((i_1 : Int) > r33)) (
  Q (.tuple ⟨[.int .i64 0, .bool false]⟩) w32) (
  bits_Reader_Get.j2 d_0 i_1 0 Q w32)))

def bits_Reader_Get (d_0 : (Option Addr)) (i_1 : Int) (Q : Value → World → Prop) (w : World) : Prop :=
  bits_Reader_Get.j1 d_0 i_1 Q w

theorem bits_Reader_Get.ok (d_0 : (Option Addr)) (i_1 : Int) (Q : Value → World → Prop) (w : World) (h : bits_Reader_Get d_0 i_1 Q w) : Calls Try.prog 52 ⟨[.pointer d_0, .int .i64 i_1]⟩ w (Ret Q) := by
  refine calls_of_wpc [.tmp 4, .tmp 5] Try.func52 rfl rfl rfl rfl ?_
  refine wpc_seq (fun ρ w => asP (ρ 0) fun d_0 => asI .i64 (ρ 1) fun i_1 => bits_Reader_Get.j1 d_0 i_1 Q w) ?_ ?_
  · skip
    exact pt_sound hmix _ (Eq.mp (by kernel_rfl) h)
  · intro ρ w h
    obtain ⟨d_0, e0, h⟩ := asP_el h
    obtain ⟨i_1, e1, h⟩ := asI_el h
    refine reroot e0 (reroot (upd_other e1 rfl) ?_)
    refine wpc_pre2 hmix (fun ρ w => asP (ρ 0) fun d_0 => asI .i64 (ρ 1) fun i_1 => asI .i64 (ρ 6) fun t6 => bits_Reader_Get.j2 d_0 i_1 t6 Q w) (Eq.mp (by kernel_rfl) h) ?_
    intro ρ w h
    obtain ⟨d_0, e0, h⟩ := asP_el h
    obtain ⟨i_1, e1, h⟩ := asI_el h
    obtain ⟨t6, e6, h⟩ := asI_el h
    refine reroot e0 (reroot (upd_other e1 rfl) (reroot (upd_other (upd_other e6 rfl) rfl) ?_))
    refine wpc_seq (fun ρ w => asI .i64 (ρ 6) fun t6 => bits_Reader_Get.j3 t6 Q w) ?_ ?_
    · skip
      refine wpc_seq (fun ρ w => asP (ρ 0) fun d_0 => asI .i64 (ρ 1) fun i_1 => asI .i64 (ρ 6) fun t6 => asI .i64 (ρ 7) fun t7 => bits_Reader_Get.j4 d_0 i_1 t6 t7 Q w) ?_ ?_
      · skip
        exact pt_sound hmix _ (Eq.mp (by kernel_rfl) h)
      · intro ρ w h
        obtain ⟨d_0, e0, h⟩ := asP_el h
        obtain ⟨i_1, e1, h⟩ := asI_el h
        obtain ⟨t6, e6, h⟩ := asI_el h
        obtain ⟨t7, e7, h⟩ := asI_el h
        refine reroot e0 (reroot (upd_other e1 rfl) (reroot (upd_other (upd_other e6 rfl) rfl) (reroot (upd_other (upd_other (upd_other e7 rfl) rfl) rfl) ?_)))
        refine wpc_block ?_
        obtain ⟨I, μ, hI, hr⟩ := h
        refine wpc_loopS (α := Int × Int) (fun s ρ => ρ 6 = .int .i64 s.1 ∧ ρ 7 = .int .i64 s.2 ∧ ρ 0 = .pointer d_0 ∧ ρ 1 = .int .i64 i_1) (fun s w => I s.1 s.2 w) (fun s w => μ s.1 s.2 w) (t6, t7) ⟨rfl, rfl, rfl, rfl⟩ hI ?_
        rintro ⟨t6, t7⟩ ρ w ⟨e6, e7, e0, e1⟩ hI
        have h := hr t6 t7 w hI
        clear hr
        obtain ⟨nx1, hnx⟩ : ∃ nx : (Option Addr) → Int → Int → Int → World → Prop, nx = (fun d_0' i_1' t6' t7' w' => (d_0' = d_0 ∧ i_1' = i_1) ∧ I t6' t7' w' ∧ μ t6' t7' w' < μ t6 t7 w) := ⟨_, rfl⟩
        rw [← hnx] at h
        refine wpc_norm (M := fun ρ w => asP (ρ 0) fun d_0 => asI .i64 (ρ 1) fun i_1 => asI .i64 (ρ 6) fun t6 => asI .i64 (ρ 7) fun t7 => nx1 d_0 i_1 t6 t7 w) ?_ (fun ρ w h => ?_)
        · skip
          refine reroot e0 (reroot (upd_other e1 rfl) (reroot (upd_other (upd_other e6 rfl) rfl) (reroot (upd_other (upd_other (upd_other e7 rfl) rfl) rfl) ?_)))
          exact pt_sound hmix _ (Eq.mp (by kernel_rfl) h)
        · skip
          obtain ⟨d_0', e0', h⟩ := asP_el h
          obtain ⟨i_1', e1', h⟩ := asI_el h
          obtain ⟨t6', e6', h⟩ := asI_el h
          obtain ⟨t7', e7', h⟩ := asI_el h
          rw [hnx] at h
          obtain ⟨hu, hI2, hμ⟩ := h
          obtain ⟨rfl, rfl⟩ := hu
          exact ⟨(t6', t7'), ⟨e6', e7', e0', e1'⟩, hI2, hμ⟩
    · intro ρ w h
      obtain ⟨t6, e6, h⟩ := asI_el h
      refine reroot e6 ?_
      exact pt_sound hmix _ (Eq.mp (by kernel_rfl) h)

/-! trove/bits.Turn -/
def bits_Turn.j3 (out_5 : Int) (Q : Value → World → Prop) (w : World) : Prop :=
  Q (.int .i64 out_5) w

def bits_Turn.b1 (t12 : Int) (v_0 : Int) (out_5 : Int) (t13 : Int) (Q : Value → World → Prop) (nx1 : Int → Int → Int → Int → World → Prop) (w : World) : Prop :=
  br (decide ((t13 : Int) < t12)) (
  (0 : Int) ≤ 1 ∧
  lt (shlV .i64 out_5 1) fun x1 =>
  lt (andV .i64 v_0 1) fun x2 =>
  lt (orV .i64 x1 x2) fun x3 =>
  (0 : Int) ≤ 1 ∧
  lt (shrV .i64 v_0 1) fun x4 =>
  lt (IntKind.i64.wrap (t13 + 1)) fun x5 =>
  nx1 t12 x4 x3 x5 w) (
  bits_Turn.j3 out_5 Q w)

def bits_Turn.l1 (t12 : Int) (v_0 : Int) (out_5 : Int) (t13 : Int) (Q : Value → World → Prop) (w : World) : Prop :=
  ∃ (I : Int → Int → Int → World → Prop) (μ : Int → Int → Int → World → Nat), I v_0 out_5 t13 w ∧ ∀ v_0 : Int, ∀ out_5 : Int, ∀ t13 : Int, ∀ w : World, I v_0 out_5 t13 w → bits_Turn.b1 t12 v_0 out_5 t13 Q (fun t12' v_0' out_5' t13' w' => (t12' = t12) ∧ I v_0' out_5' t13' w' ∧ μ v_0' out_5' t13' w' < μ v_0 out_5 t13 w) w

def bits_Turn.j4 (v_0 : Int) (out_5 : Int) (t12 : Int) (t13 : Int) (Q : Value → World → Prop) (w : World) : Prop :=
  bits_Turn.l1 t12 v_0 out_5 t13 Q w

def bits_Turn.j2 (v_0 : Int) (n_1 : Int) (out_5 : Int) (Q : Value → World → Prop) (w : World) : Prop :=
  bits_Turn.j4 v_0 out_5 n_1 0 Q w

def bits_Turn.j1 (v_0 : Int) (n_1 : Int) (Q : Value → World → Prop) (w : World) : Prop :=
  br (decide ((n_1 : Int) < 0)) (
  Q (.int .i64 0) w) (
  br (decide ((n_1 : Int) > 24)) (
  Q (.int .i64 0) w) (
  bits_Turn.j2 v_0 n_1 0 Q w))

def bits_Turn (v_0 : Int) (n_1 : Int) (Q : Value → World → Prop) (w : World) : Prop :=
  bits_Turn.j1 v_0 n_1 Q w

theorem bits_Turn.ok (v_0 : Int) (n_1 : Int) (Q : Value → World → Prop) (w : World) (h : bits_Turn v_0 n_1 Q w) : Calls Try.prog 92 ⟨[.int .i64 v_0, .int .i64 n_1]⟩ w (Ret Q) := by
  refine calls_of_wpc [.tmp 4] Try.func92 rfl rfl rfl rfl ?_
  refine wpc_seq (fun ρ w => asI .i64 (ρ 0) fun v_0 => asI .i64 (ρ 1) fun n_1 => bits_Turn.j1 v_0 n_1 Q w) ?_ ?_
  · skip
    exact pt_sound hmix _ (Eq.mp (by kernel_rfl) h)
  · intro ρ w h
    obtain ⟨v_0, e0, h⟩ := asI_el h
    obtain ⟨n_1, e1, h⟩ := asI_el h
    refine reroot e0 (reroot (upd_other e1 rfl) ?_)
    refine wpc_pre2 hmix (fun ρ w => asI .i64 (ρ 0) fun v_0 => asI .i64 (ρ 1) fun n_1 => asI .i64 (ρ 5) fun out_5 => bits_Turn.j2 v_0 n_1 out_5 Q w) (Eq.mp (by kernel_rfl) h) ?_
    intro ρ w h
    obtain ⟨v_0, e0, h⟩ := asI_el h
    obtain ⟨n_1, e1, h⟩ := asI_el h
    obtain ⟨out_5, e5, h⟩ := asI_el h
    refine reroot e0 (reroot (upd_other e1 rfl) (reroot (upd_other (upd_other e5 rfl) rfl) ?_))
    refine wpc_seq (fun ρ w => asI .i64 (ρ 5) fun out_5 => bits_Turn.j3 out_5 Q w) ?_ ?_
    · skip
      refine wpc_seq (fun ρ w => asI .i64 (ρ 0) fun v_0 => asI .i64 (ρ 5) fun out_5 => asI .i64 (ρ 12) fun t12 => asI .i64 (ρ 13) fun t13 => bits_Turn.j4 v_0 out_5 t12 t13 Q w) ?_ ?_
      · skip
        exact pt_sound hmix _ (Eq.mp (by kernel_rfl) h)
      · intro ρ w h
        obtain ⟨v_0, e0, h⟩ := asI_el h
        obtain ⟨out_5, e5, h⟩ := asI_el h
        obtain ⟨t12, e12, h⟩ := asI_el h
        obtain ⟨t13, e13, h⟩ := asI_el h
        refine reroot e0 (reroot (upd_other e5 rfl) (reroot (upd_other (upd_other e12 rfl) rfl) (reroot (upd_other (upd_other (upd_other e13 rfl) rfl) rfl) ?_)))
        refine wpc_block ?_
        obtain ⟨I, μ, hI, hr⟩ := h
        refine wpc_loopS (α := Int × Int × Int) (fun s ρ => ρ 0 = .int .i64 s.1 ∧ ρ 5 = .int .i64 s.2.1 ∧ ρ 13 = .int .i64 s.2.2 ∧ ρ 12 = .int .i64 t12) (fun s w => I s.1 s.2.1 s.2.2 w) (fun s w => μ s.1 s.2.1 s.2.2 w) (v_0, out_5, t13) ⟨rfl, rfl, rfl, rfl⟩ hI ?_
        rintro ⟨v_0, out_5, t13⟩ ρ w ⟨e0, e5, e13, e12⟩ hI
        have h := hr v_0 out_5 t13 w hI
        clear hr
        obtain ⟨nx1, hnx⟩ : ∃ nx : Int → Int → Int → Int → World → Prop, nx = (fun t12' v_0' out_5' t13' w' => (t12' = t12) ∧ I v_0' out_5' t13' w' ∧ μ v_0' out_5' t13' w' < μ v_0 out_5 t13 w) := ⟨_, rfl⟩
        rw [← hnx] at h
        refine wpc_norm (M := fun ρ w => asI .i64 (ρ 12) fun t12 => asI .i64 (ρ 0) fun v_0 => asI .i64 (ρ 5) fun out_5 => asI .i64 (ρ 13) fun t13 => nx1 t12 v_0 out_5 t13 w) ?_ (fun ρ w h => ?_)
        · skip
          refine reroot e0 (reroot (upd_other e5 rfl) (reroot (upd_other (upd_other e12 rfl) rfl) (reroot (upd_other (upd_other (upd_other e13 rfl) rfl) rfl) ?_)))
          exact pt_sound hmix _ (Eq.mp (by kernel_rfl) h)
        · skip
          obtain ⟨t12', e12', h⟩ := asI_el h
          obtain ⟨v_0', e0', h⟩ := asI_el h
          obtain ⟨out_5', e5', h⟩ := asI_el h
          obtain ⟨t13', e13', h⟩ := asI_el h
          rw [hnx] at h
          obtain ⟨hu, hI2, hμ⟩ := h
          obtain rfl := hu
          exact ⟨(v_0', out_5', t13'), ⟨e0', e5', e13', e12'⟩, hI2, hμ⟩
    · intro ρ w h
      obtain ⟨out_5, e5, h⟩ := asI_el h
      refine reroot e5 ?_
      exact pt_sound hmix _ (Eq.mp (by kernel_rfl) h)

/-! (*trove/bits.Reader).Left -/
def bits_Reader_Left (r_0 : (Option Addr)) (Q : Value → World → Prop) (w : World) : Prop :=
  lt (World.drew w) fun w1 =>
  nz r_0 fun a2 =>
  ldL w1 (Addr.add a2 0) fun x3 =>
  lt (IntKind.i64.wrap (8 * ((x3.len : Nat) : Int))) fun x4 =>
  nz r_0 fun a5 =>
  ldI .i64 w1 (Addr.add a5 1) fun x6 =>
  lt (IntKind.i64.wrap (x4 - x6)) fun x7 =>
  Q (.int .i64 x7) w1

theorem bits_Reader_Left.ok (r_0 : (Option Addr)) (Q : Value → World → Prop) (w : World) (h : bits_Reader_Left r_0 Q w) : Calls Try.prog 93 ⟨[.pointer r_0]⟩ w (Ret Q) := by
  refine calls_of_wpc [.tmp 2] Try.func93 rfl rfl rfl rfl ?_
  exact pt_sound hmix _ (Eq.mp (by kernel_rfl) h)

/-! (*trove/bits.Writer).Byte -/
def bits_Writer_Byte (w_0 : (Option Addr)) (b_1 : Int) (Q : Value → World → Prop) (w : World) : Prop :=
  Calls Try.prog 124 ⟨[.pointer w_0]⟩ w fun e1 w2 =>
  e1 = .returned (.tuple ⟨[]⟩) ∧
  nz w_0 fun a3 =>
  ldL w2 (Addr.add a3 0) fun x4 =>
  lt (⟨World.heapSize w2, 0, none⟩ : Addr) fun a5 =>
  lt (World.alloc w2 (.cells ⟨[.int .u8 b_1]⟩ 5)) fun w6 =>
  rdO w6 (some a5) (1 * 1) fun c7 =>
  apK Try.prog 5 w6 x4.a x4.len x4.cap 1 c7 fun s8 w9 =>
  nz w_0 fun a10 =>
  st w9 (Addr.add a10 0) (.slice s8.a s8.len s8.cap) fun w11 =>
  Q (.tuple ⟨[]⟩) w11

theorem bits_Writer_Byte.ok (w_0 : (Option Addr)) (b_1 : Int) (Q : Value → World → Prop) (w : World) (h : bits_Writer_Byte w_0 b_1 Q w) : Calls Try.prog 125 ⟨[.pointer w_0, .int .u8 b_1]⟩ w (Ret Q) := by
  refine calls_of_wpc [] Try.func125 rfl rfl rfl rfl ?_
  exact pt_sound hmix _ (Eq.mp (by kernel_rfl) h)

/-! (*trove/bits.Writer).Align -/
def bits_Writer_Align (w_0 : (Option Addr)) (Q : Value → World → Prop) (w : World) : Prop :=
  nz w_0 fun a1 =>
  ldI .i64 w (Addr.add a1 2) fun x2 =>
  br (decide ((x2 : Int) > 0)) (
  nz w_0 fun a3 =>
  ldI .i64 w (Addr.add a3 2) fun x4 =>
  lt (IntKind.i64.wrap (8 - x4)) fun x5 =>
  Calls Try.prog 91 ⟨[.pointer w_0, .int .i64 0, .int .i64 x5]⟩ w fun e6 w7 =>
  e6 = .returned (.tuple ⟨[]⟩) ∧
  Q (.tuple ⟨[]⟩) w7) (
  Q (.tuple ⟨[]⟩) w)

theorem bits_Writer_Align.ok (w_0 : (Option Addr)) (Q : Value → World → Prop) (w : World) (h : bits_Writer_Align w_0 Q w) : Calls Try.prog 124 ⟨[.pointer w_0]⟩ w (Ret Q) := by
  refine calls_of_wpc [] Try.func124 rfl rfl rfl rfl ?_
  exact pt_sound hmix _ (Eq.mp (by kernel_rfl) h)

/-! (*trove/bits.Writer).Len -/
def bits_Writer_Len (w_0 : (Option Addr)) (Q : Value → World → Prop) (w : World) : Prop :=
  lt (World.drew w) fun w1 =>
  nz w_0 fun a2 =>
  ldL w1 (Addr.add a2 0) fun x3 =>
  lt (IntKind.i64.wrap (8 * ((x3.len : Nat) : Int))) fun x4 =>
  nz w_0 fun a5 =>
  ldI .i64 w1 (Addr.add a5 2) fun x6 =>
  lt (IntKind.i64.wrap (x4 + x6)) fun x7 =>
  Q (.int .i64 x7) w1

theorem bits_Writer_Len.ok (w_0 : (Option Addr)) (Q : Value → World → Prop) (w : World) (h : bits_Writer_Len w_0 Q w) : Calls Try.prog 20 ⟨[.pointer w_0]⟩ w (Ret Q) := by
  refine calls_of_wpc [.tmp 2] Try.func20 rfl rfl rfl rfl ?_
  exact pt_sound hmix _ (Eq.mp (by kernel_rfl) h)

/-! (*trove/bits.Reader).Align -/
def bits_Reader_Align (r_0 : (Option Addr)) (Q : Value → World → Prop) (w : World) : Prop :=
  Calls Try.prog 157 ⟨[.pointer r_0]⟩ w fun e1 w2 =>
  ∃ r3 : Int, e1 = .returned (.int .i64 r3) ∧
  lt (IntKind.i64.wrap (8 * r3)) fun x4 =>
  nz r_0 fun a5 =>
  st w2 (Addr.add a5 1) (.int .i64 x4) fun w6 =>
  Q (.tuple ⟨[]⟩) w6

theorem bits_Reader_Align.ok (r_0 : (Option Addr)) (Q : Value → World → Prop) (w : World) (h : bits_Reader_Align r_0 Q w) : Calls Try.prog 181 ⟨[.pointer r_0]⟩ w (Ret Q) := by
  refine calls_of_wpc [] Try.func181 rfl rfl rfl rfl ?_
  exact pt_sound hmix _ (Eq.mp (by kernel_rfl) h)

/-! (*trove/bits.Reader).Past -/
def bits_Reader_Past (r_0 : (Option Addr)) (Q : Value → World → Prop) (w : World) : Prop :=
  nz r_0 fun a1 =>
  ldI .i64 w (Addr.add a1 1) fun x2 =>
  lt (IntKind.i64.wrap (x2 + 7)) fun x3 =>
  (8 : Int) ≠ 0 ∧
  lt (IntKind.i64.wrap (Int.tdiv x3 8)) fun x4 =>
  Q (.int .i64 x4) w

theorem bits_Reader_Past.ok (r_0 : (Option Addr)) (Q : Value → World → Prop) (w : World) (h : bits_Reader_Past r_0 Q w) : Calls Try.prog 157 ⟨[.pointer r_0]⟩ w (Ret Q) := by
  refine calls_of_wpc [.tmp 2] Try.func157 rfl rfl rfl rfl ?_
  exact pt_sound hmix _ (Eq.mp (by kernel_rfl) h)

end Go.Proofs.Ythdmmmfgjmmelaa
