/- PRINTED BY gen.py (own work): what calls come to, and the proofs of it. -/
import Derived.Test.YtkajimndclhgaaaVcJ
import Derived.Test.YtkajimndclhgaaaProg
namespace Go.Proofs.Ytkajimndclhgaaa
open Go Go.Proofs
set_option linter.unusedVariables false
set_option maxRecDepth 100000

/-! trove/bin.New -/
def bin_New (b_0 : Sl) (Q : Value → World → Prop) (w : World) : Prop :=
  Calls Try.prog 124 ⟨[.slice b_0.a b_0.len b_0.cap]⟩ w fun e1 w2 =>
  ∃ r3 : Sl, e1 = .returned (.slice r3.a r3.len r3.cap) ∧
  lt (⟨World.heapSize w2, 0, none⟩ : Addr) fun a4 =>
  lt (World.alloc w2 (.cells (⟨[.slice r3.a r3.len r3.cap, .int .i64 0, .int .i64 0]⟩ : Array Value) 169)) fun w5 =>
  Q (.pointer (some a4)) w5

theorem bin_New.ok (b_0 : Sl) (Q : Value → World → Prop) (w : World) (h : bin_New b_0 Q w) : Calls Try.prog 77 ⟨[.slice b_0.a b_0.len b_0.cap]⟩ w (Ret Q) := by
  refine calls_of_wpc [.tmp 2] Try.func77 rfl rfl rfl rfl ?_
  exact pt_sound hmix _ (Eq.mp (by kernel_rfl) h)

/-! (*trove/bin.Reader).Err -/
def bin_Reader_Err (r_0 : (Option Addr)) (Q : Value → World → Prop) (w : World) : Prop :=
  nz r_0 fun a1 =>
  ldI .i64 w (Addr.add a1 2) fun x2 =>
  Q (.int .i64 x2) w

theorem bin_Reader_Err.ok (r_0 : (Option Addr)) (Q : Value → World → Prop) (w : World) (h : bin_Reader_Err r_0 Q w) : Calls Try.prog 81 ⟨[.pointer r_0]⟩ w (Ret Q) := by
  refine calls_of_wpc [.tmp 2] Try.func81 rfl rfl rfl rfl ?_
  exact pt_sound hmix _ (Eq.mp (by kernel_rfl) h)

/-! (*trove/bin.Reader).Left -/
def bin_Reader_Left (r_0 : (Option Addr)) (Q : Value → World → Prop) (w : World) : Prop :=
  nz r_0 fun a1 =>
  ldI .i64 w (Addr.add a1 2) fun x2 =>
  br ((x2 : Int) != 0) (
  Q (.int .i64 0) w) (
  lt (World.drew w) fun w3 =>
  nz r_0 fun a4 =>
  ldL w3 (Addr.add a4 0) fun x5 =>
  nz r_0 fun a6 =>
  ldI .i64 w3 (Addr.add a6 1) fun x7 =>
  lt (IntKind.i64.wrap (((x5.len : Nat) : Int) - x7)) fun x8 =>
  Q (.int .i64 x8) w3)

theorem bin_Reader_Left.ok (r_0 : (Option Addr)) (Q : Value → World → Prop) (w : World) (h : bin_Reader_Left r_0 Q w) : Calls Try.prog 82 ⟨[.pointer r_0]⟩ w (Ret Q) := by
  refine calls_of_wpc [.tmp 2] Try.func82 rfl rfl rfl rfl ?_
  exact pt_sound hmix _ (Eq.mp (by kernel_rfl) h)

/-! (*trove/bin.Reader).At -/
def bin_Reader_At (r_0 : (Option Addr)) (Q : Value → World → Prop) (w : World) : Prop :=
  nz r_0 fun a1 =>
  ldI .i64 w (Addr.add a1 1) fun x2 =>
  Q (.int .i64 x2) w

theorem bin_Reader_At.ok (r_0 : (Option Addr)) (Q : Value → World → Prop) (w : World) (h : bin_Reader_At r_0 Q w) : Calls Try.prog 83 ⟨[.pointer r_0]⟩ w (Ret Q) := by
  refine calls_of_wpc [.tmp 2] Try.func83 rfl rfl rfl rfl ?_
  exact pt_sound hmix _ (Eq.mp (by kernel_rfl) h)

/-! (*trove/bin.Reader).take -/
def bin_Reader_take.j1 (r_0 : (Option Addr)) (n_1 : Int) (Q : Value → World → Prop) (w : World) : Prop :=
  nz r_0 fun a1 =>
  ldI .i64 w (Addr.add a1 2) fun x2 =>
  br ((x2 : Int) != 0) (
  Q (.slice none 0 0) w) (
  nz r_0 fun a3 =>
  ldI .i64 w (Addr.add a3 1) fun x4 =>
  lt (IntKind.i64.wrap (x4 + n_1)) fun x5 =>
  nz r_0 fun a6 =>
  st w (Addr.add a6 1) (.int .i64 x5) fun w7 =>
  lt (World.drew w7) fun w8 =>
  nz r_0 fun a9 =>
  ldL w8 (Addr.add a9 0) fun x10 =>
  nz r_0 fun a11 =>
  ldI .i64 w8 (Addr.add a11 1) fun x12 =>
  lt (IntKind.i64.wrap (x12 - n_1)) fun x13 =>
  nz r_0 fun a14 =>
  ldI .i64 w8 (Addr.add a14 1) fun x15 =>
  bd x15 x10.cap fun n16 =>
  bd x13 n16 fun n17 =>
  lt (⟨cutA x10.a x10.cap n17 1, n16 - n17, x10.cap - n17⟩ : Sl) fun s18 =>
  Q (.slice s18.a s18.len s18.cap) w8)

def bin_Reader_take (r_0 : (Option Addr)) (n_1 : Int) (Q : Value → World → Prop) (w : World) : Prop :=
  nz r_0 fun a19 =>
  ldI .i64 w (Addr.add a19 2) fun x20 =>
  br ((x20 : Int) == 0) (
  br (decide ((n_1 : Int) < 0)) (
  nz r_0 fun a21 =>
  st w (Addr.add a21 2) (.int .i64 3) fun w22 =>
  bin_Reader_take.j1 r_0 n_1 Q w22) (
  Calls Try.prog 82 ⟨[.pointer r_0]⟩ w fun e23 w24 =>
  ∃ r25 : Int, e23 = .returned (.int .i64 r25) ∧
  br (decide ((n_1 : Int) > r25)) (
  nz r_0 fun a26 =>
  st w24 (Addr.add a26 2) (.int .i64 3) fun w27 =>
  bin_Reader_take.j1 r_0 n_1 Q w27) (
  bin_Reader_take.j1 r_0 n_1 Q w24))) (
  bin_Reader_take.j1 r_0 n_1 Q w)

theorem bin_Reader_take.ok (r_0 : (Option Addr)) (n_1 : Int) (Q : Value → World → Prop) (w : World) (h : bin_Reader_take r_0 n_1 Q w) : Calls Try.prog 134 ⟨[.pointer r_0, .int .i64 n_1]⟩ w (Ret Q) := by
  refine calls_of_wpc [.tmp 4] Try.func134 rfl rfl rfl rfl ?_
  refine wpc_pre2 hmix (fun ρ w => asP (ρ 0) fun r_0 => asI .i64 (ρ 1) fun n_1 => bin_Reader_take.j1 r_0 n_1 Q w) (Eq.mp (by kernel_rfl) h) ?_
  intro ρ w h
  obtain ⟨r_0, e0, h⟩ := asP_el h
  obtain ⟨n_1, e1, h⟩ := asI_el h
  refine reroot e0 (reroot (upd_other e1 rfl) ?_)
  exact pt_sound hmix _ (Eq.mp (by kernel_rfl) h)

/-! (*trove/bin.Reader).number -/
def bin_Reader_number.j2 (v_5 : Int) (Q : Value → World → Prop) (w : World) : Prop :=
  Q (.int .i64 v_5) w

def bin_Reader_number.b1 (t10 : Sl) (t11 : Int) (v_5 : Int) (t12 : Int) (Q : Value → World → Prop) (nx1 : Sl → Int → Int → Int → World → Prop) (w : World) : Prop :=
  br (decide ((t12 : Int) < t11)) (
  ixS t10.a t10.len t12 1 fun a1 =>
  ldI .u8 w a1 fun x2 =>
  (0 : Int) ≤ 8 ∧
  lt (shlV .i64 v_5 8) fun x3 =>
  lt (IntKind.i64.wrap x2) fun x4 =>
  lt (orV .i64 x3 x4) fun x5 =>
  lt (IntKind.i64.wrap (t12 + 1)) fun x6 =>
  nx1 t10 t11 x5 x6 w) (
  bin_Reader_number.j2 v_5 Q w)

def bin_Reader_number.l1 (t10 : Sl) (t11 : Int) (v_5 : Int) (t12 : Int) (Q : Value → World → Prop) (w : World) : Prop :=
  ∃ (I : Int → Int → World → Prop) (μ : Int → Int → World → Nat), I v_5 t12 w ∧ ∀ v_5 : Int, ∀ t12 : Int, ∀ w : World, I v_5 t12 w → bin_Reader_number.b1 t10 t11 v_5 t12 Q (fun t10' t11' v_5' t12' w' => (t10' = t10 ∧ t11' = t11) ∧ I v_5' t12' w' ∧ μ v_5' t12' w' < μ v_5 t12 w) w

def bin_Reader_number.j3 (v_5 : Int) (t10 : Sl) (t11 : Int) (t12 : Int) (Q : Value → World → Prop) (w : World) : Prop :=
  bin_Reader_number.l1 t10 t11 v_5 t12 Q w

def bin_Reader_number.j1 (r_0 : (Option Addr)) (n_1 : Int) (v_5 : Int) (Q : Value → World → Prop) (w : World) : Prop :=
  Calls Try.prog 134 ⟨[.pointer r_0, .int .i64 n_1]⟩ w fun e7 w8 =>
  ∃ r9 : Sl, e7 = .returned (.slice r9.a r9.len r9.cap) ∧
  bin_Reader_number.j3 v_5 r9 ((r9.len : Nat) : Int) 0 Q w8

def bin_Reader_number (r_0 : (Option Addr)) (n_1 : Int) (Q : Value → World → Prop) (w : World) : Prop :=
  bin_Reader_number.j1 r_0 n_1 0 Q w

theorem bin_Reader_number.ok (r_0 : (Option Addr)) (n_1 : Int) (Q : Value → World → Prop) (w : World) (h : bin_Reader_number r_0 n_1 Q w) : Calls Try.prog 133 ⟨[.pointer r_0, .int .i64 n_1]⟩ w (Ret Q) := by
  refine calls_of_wpc [.tmp 4] Try.func133 rfl rfl rfl rfl ?_
  refine wpc_pre2 hmix (fun ρ w => asP (ρ 0) fun r_0 => asI .i64 (ρ 1) fun n_1 => asI .i64 (ρ 5) fun v_5 => bin_Reader_number.j1 r_0 n_1 v_5 Q w) (Eq.mp (by kernel_rfl) h) ?_
  intro ρ w h
  obtain ⟨r_0, e0, h⟩ := asP_el h
  obtain ⟨n_1, e1, h⟩ := asI_el h
  obtain ⟨v_5, e5, h⟩ := asI_el h
  refine reroot e0 (reroot (upd_other e1 rfl) (reroot (upd_other (upd_other e5 rfl) rfl) ?_))
  refine wpc_seq (fun ρ w => asI .i64 (ρ 5) fun v_5 => bin_Reader_number.j2 v_5 Q w) ?_ ?_
  · skip
    refine wpc_seq (fun ρ w => asI .i64 (ρ 5) fun v_5 => asL (ρ 10) fun t10 => asI .i64 (ρ 11) fun t11 => asI .i64 (ρ 12) fun t12 => bin_Reader_number.j3 v_5 t10 t11 t12 Q w) ?_ ?_
    · skip
      exact pt_sound hmix _ (Eq.mp (by kernel_rfl) h)
    · intro ρ w h
      obtain ⟨v_5, e5, h⟩ := asI_el h
      obtain ⟨t10, e10, h⟩ := asL_el h
      obtain ⟨t11, e11, h⟩ := asI_el h
      obtain ⟨t12, e12, h⟩ := asI_el h
      refine reroot e5 (reroot (upd_other e10 rfl) (reroot (upd_other (upd_other e11 rfl) rfl) (reroot (upd_other (upd_other (upd_other e12 rfl) rfl) rfl) ?_)))
      refine wpc_block ?_
      obtain ⟨I, μ, hI, hr⟩ := h
      refine wpc_loopS (α := Int × Int) (fun s ρ => ρ 5 = .int .i64 s.1 ∧ ρ 12 = .int .i64 s.2 ∧ ρ 10 = .slice t10.a t10.len t10.cap ∧ ρ 11 = .int .i64 t11) (fun s w => I s.1 s.2 w) (fun s w => μ s.1 s.2 w) (v_5, t12) ⟨rfl, rfl, rfl, rfl⟩ hI ?_
      rintro ⟨v_5, t12⟩ ρ w ⟨e5, e12, e10, e11⟩ hI
      have h := hr v_5 t12 w hI
      clear hr
      obtain ⟨nx1, hnx⟩ : ∃ nx : Sl → Int → Int → Int → World → Prop, nx = (fun t10' t11' v_5' t12' w' => (t10' = t10 ∧ t11' = t11) ∧ I v_5' t12' w' ∧ μ v_5' t12' w' < μ v_5 t12 w) := ⟨_, rfl⟩
      rw [← hnx] at h
      refine wpc_norm (M := fun ρ w => asL (ρ 10) fun t10 => asI .i64 (ρ 11) fun t11 => asI .i64 (ρ 5) fun v_5 => asI .i64 (ρ 12) fun t12 => nx1 t10 t11 v_5 t12 w) ?_ (fun ρ w h => ?_)
      · skip
        refine reroot e5 (reroot (upd_other e10 rfl) (reroot (upd_other (upd_other e11 rfl) rfl) (reroot (upd_other (upd_other (upd_other e12 rfl) rfl) rfl) ?_)))
        exact pt_sound hmix _ (Eq.mp (by kernel_rfl) h)
      · skip
        obtain ⟨t10', e10', h⟩ := asL_el h
        obtain ⟨t11', e11', h⟩ := asI_el h
        obtain ⟨v_5', e5', h⟩ := asI_el h
        obtain ⟨t12', e12', h⟩ := asI_el h
        rw [hnx] at h
        obtain ⟨hu, hI2, hμ⟩ := h
        obtain ⟨rfl, rfl⟩ := hu
        exact ⟨(v_5', t12'), ⟨e5', e12', e10', e11'⟩, hI2, hμ⟩
  · intro ρ w h
    obtain ⟨v_5, e5, h⟩ := asI_el h
    refine reroot e5 ?_
    exact pt_sound hmix _ (Eq.mp (by kernel_rfl) h)

/-! (*trove/bin.Reader).U8 -/
def bin_Reader_U8 (r_0 : (Option Addr)) (Q : Value → World → Prop) (w : World) : Prop :=
  Calls Try.prog 133 ⟨[.pointer r_0, .int .i64 1]⟩ w fun e1 w2 =>
  ∃ r3 : Int, e1 = .returned (.int .i64 r3) ∧
  Q (.int .i64 r3) w2

theorem bin_Reader_U8.ok (r_0 : (Option Addr)) (Q : Value → World → Prop) (w : World) (h : bin_Reader_U8 r_0 Q w) : Calls Try.prog 84 ⟨[.pointer r_0]⟩ w (Ret Q) := by
  refine calls_of_wpc [.tmp 2] Try.func84 rfl rfl rfl rfl ?_
  exact pt_sound hmix _ (Eq.mp (by kernel_rfl) h)

/-! (*trove/bin.Reader).U16 -/
def bin_Reader_U16 (r_0 : (Option Addr)) (Q : Value → World → Prop) (w : World) : Prop :=
  Calls Try.prog 133 ⟨[.pointer r_0, .int .i64 2]⟩ w fun e1 w2 =>
  ∃ r3 : Int, e1 = .returned (.int .i64 r3) ∧
  Q (.int .i64 r3) w2

theorem bin_Reader_U16.ok (r_0 : (Option Addr)) (Q : Value → World → Prop) (w : World) (h : bin_Reader_U16 r_0 Q w) : Calls Try.prog 78 ⟨[.pointer r_0]⟩ w (Ret Q) := by
  refine calls_of_wpc [.tmp 2] Try.func78 rfl rfl rfl rfl ?_
  exact pt_sound hmix _ (Eq.mp (by kernel_rfl) h)

/-! (*trove/bin.Reader).U32 -/
def bin_Reader_U32 (r_0 : (Option Addr)) (Q : Value → World → Prop) (w : World) : Prop :=
  Calls Try.prog 133 ⟨[.pointer r_0, .int .i64 4]⟩ w fun e1 w2 =>
  ∃ r3 : Int, e1 = .returned (.int .i64 r3) ∧
  Q (.int .i64 r3) w2

theorem bin_Reader_U32.ok (r_0 : (Option Addr)) (Q : Value → World → Prop) (w : World) (h : bin_Reader_U32 r_0 Q w) : Calls Try.prog 79 ⟨[.pointer r_0]⟩ w (Ret Q) := by
  refine calls_of_wpc [.tmp 2] Try.func79 rfl rfl rfl rfl ?_
  exact pt_sound hmix _ (Eq.mp (by kernel_rfl) h)

/-! (*trove/bin.Reader).U64 -/
def bin_Reader_U64 (r_0 : (Option Addr)) (Q : Value → World → Prop) (w : World) : Prop :=
  Calls Try.prog 133 ⟨[.pointer r_0, .int .i64 8]⟩ w fun e1 w2 =>
  ∃ r3 : Int, e1 = .returned (.int .i64 r3) ∧
  br (decide ((r3 : Int) < 0)) (
  nz r_0 fun a4 =>
  ldI .i64 w2 (Addr.add a4 1) fun x5 =>
  lt (IntKind.i64.wrap (x5 - 8)) fun x6 =>
  nz r_0 fun a7 =>
  st w2 (Addr.add a7 1) (.int .i64 x6) fun w8 =>
  nz r_0 fun a9 =>
  st w8 (Addr.add a9 2) (.int .i64 5) fun w10 =>
  Q (.int .i64 0) w10) (
  Q (.int .i64 r3) w2)

theorem bin_Reader_U64.ok (r_0 : (Option Addr)) (Q : Value → World → Prop) (w : World) (h : bin_Reader_U64 r_0 Q w) : Calls Try.prog 80 ⟨[.pointer r_0]⟩ w (Ret Q) := by
  refine calls_of_wpc [.tmp 2] Try.func80 rfl rfl rfl rfl ?_
  exact pt_sound hmix _ (Eq.mp (by kernel_rfl) h)

/-! (*trove/bin.Reader).Bytes -/
def bin_Reader_Bytes (r_0 : (Option Addr)) (n_1 : Int) (Q : Value → World → Prop) (w : World) : Prop :=
  Calls Try.prog 134 ⟨[.pointer r_0, .int .i64 n_1]⟩ w fun e1 w2 =>
  ∃ r3 : Sl, e1 = .returned (.slice r3.a r3.len r3.cap) ∧
  Calls Try.prog 124 ⟨[.slice r3.a r3.len r3.cap]⟩ w2 fun e4 w5 =>
  ∃ r6 : Sl, e4 = .returned (.slice r6.a r6.len r6.cap) ∧
  Calls Try.prog 125 ⟨[.slice r6.a r6.len r6.cap]⟩ w5 fun e7 w8 =>
  ∃ r9 : Sl, e7 = .returned (.slice r9.a r9.len r9.cap) ∧
  Q (.slice r9.a r9.len r9.cap) w8

theorem bin_Reader_Bytes.ok (r_0 : (Option Addr)) (n_1 : Int) (Q : Value → World → Prop) (w : World) (h : bin_Reader_Bytes r_0 n_1 Q w) : Calls Try.prog 86 ⟨[.pointer r_0, .int .i64 n_1]⟩ w (Ret Q) := by
  refine calls_of_wpc [.tmp 4] Try.func86 rfl rfl rfl rfl ?_
  exact pt_sound hmix _ (Eq.mp (by kernel_rfl) h)

/-! trove/bin.PutSize -/
def bin_PutSize.j3 (v_1 : Int) (out_5 : Sl) (Q : Value → World → Prop) (w : World) : Prop :=
  lt (IntKind.u8.wrap v_1) fun x1 =>
  lt (⟨World.heapSize w, 0, none⟩ : Addr) fun a2 =>
  lt (World.alloc w (.cells ⟨[.int .u8 x1]⟩ 5)) fun w3 =>
  rdO w3 (some a2) (1 * 1) fun c4 =>
  apK Try.prog 5 w3 out_5.a out_5.len out_5.cap 1 c4 fun s5 w6 =>
  Calls Try.prog 125 ⟨[.slice s5.a s5.len s5.cap]⟩ w6 fun e7 w8 =>
  ∃ r9 : Sl, e7 = .returned (.slice r9.a r9.len r9.cap) ∧
  Q (.slice r9.a r9.len r9.cap) w8

def bin_PutSize.b1 (v_1 : Int) (out_5 : Sl) (Q : Value → World → Prop) (nx1 : Int → Sl → World → Prop) (w : World) : Prop :=
  br (decide ((v_1 : Int) > 127)) (
  lt (andV .i64 v_1 127) fun x10 =>
  lt (orV .i64 x10 128) fun x11 =>
  lt (IntKind.u8.wrap x11) fun x12 =>
  lt (⟨World.heapSize w, 0, none⟩ : Addr) fun a13 =>
  lt (World.alloc w (.cells ⟨[.int .u8 x12]⟩ 5)) fun w14 =>
  rdO w14 (some a13) (1 * 1) fun c15 =>
  apK Try.prog 5 w14 out_5.a out_5.len out_5.cap 1 c15 fun s16 w17 =>
  (0 : Int) ≤ 7 ∧
  lt (shrV .i64 v_1 7) fun x18 =>
  nx1 x18 s16 w17) (
  bin_PutSize.j3 v_1 out_5 Q w)

def bin_PutSize.l1 (v_1 : Int) (out_5 : Sl) (Q : Value → World → Prop) (w : World) : Prop :=
  ∃ (I : Int → Sl → World → Prop) (μ : Int → Sl → World → Nat), I v_1 out_5 w ∧ ∀ v_1 : Int, ∀ out_5 : Sl, ∀ w : World, I v_1 out_5 w → bin_PutSize.b1 v_1 out_5 Q (fun v_1' out_5' w' => (True) ∧ I v_1' out_5' w' ∧ μ v_1' out_5' w' < μ v_1 out_5 w) w

def bin_PutSize.j2 (v_1 : Int) (out_5 : Sl) (Q : Value → World → Prop) (w : World) : Prop :=
  bin_PutSize.l1 v_1 out_5 Q w

def bin_PutSize.j1 (b_0 : Sl) (v_1 : Int) (Q : Value → World → Prop) (w : World) : Prop :=
  Calls Try.prog 124 ⟨[.slice b_0.a b_0.len b_0.cap]⟩ w fun e19 w20 =>
  ∃ r21 : Sl, e19 = .returned (.slice r21.a r21.len r21.cap) ∧
  br (decide ((v_1 : Int) < 0)) (
  Q (.slice r21.a r21.len r21.cap) w20) (
  bin_PutSize.j2 v_1 r21 Q w20)

def bin_PutSize (b_0 : Sl) (v_1 : Int) (Q : Value → World → Prop) (w : World) : Prop :=
  bin_PutSize.j1 b_0 v_1 Q w

theorem bin_PutSize.ok (b_0 : Sl) (v_1 : Int) (Q : Value → World → Prop) (w : World) (h : bin_PutSize b_0 v_1 Q w) : Calls Try.prog 90 ⟨[.slice b_0.a b_0.len b_0.cap, .int .i64 v_1]⟩ w (Ret Q) := by
  refine calls_of_wpc [.tmp 4] Try.func90 rfl rfl rfl rfl ?_
  refine wpc_seq (fun ρ w => asL (ρ 0) fun b_0 => asI .i64 (ρ 1) fun v_1 => bin_PutSize.j1 b_0 v_1 Q w) ?_ ?_
  · skip
    exact pt_sound hmix _ (Eq.mp (by kernel_rfl) h)
  · intro ρ w h
    obtain ⟨b_0, e0, h⟩ := asL_el h
    obtain ⟨v_1, e1, h⟩ := asI_el h
    refine reroot e0 (reroot (upd_other e1 rfl) ?_)
    refine wpc_pre2 hmix (fun ρ w => asI .i64 (ρ 1) fun v_1 => asL (ρ 5) fun out_5 => bin_PutSize.j2 v_1 out_5 Q w) (Eq.mp (by kernel_rfl) h) ?_
    intro ρ w h
    obtain ⟨v_1, e1, h⟩ := asI_el h
    obtain ⟨out_5, e5, h⟩ := asL_el h
    refine reroot e1 (reroot (upd_other e5 rfl) ?_)
    refine wpc_seq (fun ρ w => asI .i64 (ρ 1) fun v_1 => asL (ρ 5) fun out_5 => bin_PutSize.j3 v_1 out_5 Q w) ?_ ?_
    · skip
      refine wpc_block ?_
      obtain ⟨I, μ, hI, hr⟩ := h
      refine wpc_loopS (α := Int × Sl) (fun s ρ => ρ 1 = .int .i64 s.1 ∧ ρ 5 = .slice s.2.a s.2.len s.2.cap) (fun s w => I s.1 s.2 w) (fun s w => μ s.1 s.2 w) (v_1, out_5) ⟨rfl, rfl⟩ hI ?_
      rintro ⟨v_1, out_5⟩ ρ w ⟨e1, e5⟩ hI
      have h := hr v_1 out_5 w hI
      clear hr
      obtain ⟨nx1, hnx⟩ : ∃ nx : Int → Sl → World → Prop, nx = (fun v_1' out_5' w' => (True) ∧ I v_1' out_5' w' ∧ μ v_1' out_5' w' < μ v_1 out_5 w) := ⟨_, rfl⟩
      rw [← hnx] at h
      refine wpc_norm (M := fun ρ w => asI .i64 (ρ 1) fun v_1 => asL (ρ 5) fun out_5 => nx1 v_1 out_5 w) ?_ (fun ρ w h => ?_)
      · skip
        refine reroot e1 (reroot (upd_other e5 rfl) ?_)
        exact pt_sound hmix _ (Eq.mp (by kernel_rfl) h)
      · skip
        obtain ⟨v_1', e1', h⟩ := asI_el h
        obtain ⟨out_5', e5', h⟩ := asL_el h
        rw [hnx] at h
        obtain ⟨hu, hI2, hμ⟩ := h
        exact ⟨(v_1', out_5'), ⟨e1', e5'⟩, hI2, hμ⟩
    · intro ρ w h
      obtain ⟨v_1, e1, h⟩ := asI_el h
      obtain ⟨out_5, e5, h⟩ := asL_el h
      refine reroot e1 (reroot (upd_other e5 rfl) ?_)
      exact pt_sound hmix _ (Eq.mp (by kernel_rfl) h)

/-! trove/bin.Size -/
def bin_Size.j2 (b_0 : Sl) (Q : Value → World → Prop) (w : World) : Prop :=
  br (decide ((((b_0.len : Nat) : Int) : Int) ≥ 9)) (
  Q (.tuple ⟨[.int .i64 0, .int .i64 0, .int .i64 5]⟩) w) (
  Q (.tuple ⟨[.int .i64 0, .int .i64 0, .int .i64 3]⟩) w)

def bin_Size.b1 (b_0 : Sl) (t7 : Sl) (t8 : Int) (v_2 : Int) (t9 : Int) (Q : Value → World → Prop) (nx1 : Sl → Sl → Int → Int → Int → World → Prop) (w : World) : Prop :=
  br (decide ((t9 : Int) < t8)) (
  ixS t7.a t7.len t9 1 fun a1 =>
  ldI .u8 w a1 fun x2 =>
  br ((t9 : Int) == 9) (
  Q (.tuple ⟨[.int .i64 0, .int .i64 0, .int .i64 5]⟩) w) (
  lt (andV .u8 x2 127) fun x3 =>
  lt (IntKind.i64.wrap x3) fun x4 =>
  lt (IntKind.i64.wrap (7 * t9)) fun x5 =>
  (0 : Int) ≤ x5 ∧
  lt (shlV .i64 x4 x5) fun x6 =>
  lt (orV .i64 v_2 x6) fun x7 =>
  br (decide ((x2 : Int) < 128)) (
  lt (IntKind.i64.wrap (t9 + 1)) fun x8 =>
  Q (.tuple ⟨[.int .i64 x7, .int .i64 x8, .int .i64 0]⟩) w) (
  lt (IntKind.i64.wrap (t9 + 1)) fun x9 =>
  nx1 b_0 t7 t8 x7 x9 w))) (
  bin_Size.j2 b_0 Q w)

def bin_Size.l1 (b_0 : Sl) (t7 : Sl) (t8 : Int) (v_2 : Int) (t9 : Int) (Q : Value → World → Prop) (w : World) : Prop :=
  ∃ (I : Int → Int → World → Prop) (μ : Int → Int → World → Nat), I v_2 t9 w ∧ ∀ v_2 : Int, ∀ t9 : Int, ∀ w : World, I v_2 t9 w → bin_Size.b1 b_0 t7 t8 v_2 t9 Q (fun b_0' t7' t8' v_2' t9' w' => (b_0' = b_0 ∧ t7' = t7 ∧ t8' = t8) ∧ I v_2' t9' w' ∧ μ v_2' t9' w' < μ v_2 t9 w) w

def bin_Size.j3 (b_0 : Sl) (v_2 : Int) (t7 : Sl) (t8 : Int) (t9 : Int) (Q : Value → World → Prop) (w : World) : Prop :=
  bin_Size.l1 b_0 t7 t8 v_2 t9 Q w

def bin_Size.j1 (b_0 : Sl) (v_2 : Int) (Q : Value → World → Prop) (w : World) : Prop :=
  bin_Size.j3 b_0 v_2 b_0 ((b_0.len : Nat) : Int) 0 Q w

def bin_Size (b_0 : Sl) (Q : Value → World → Prop) (w : World) : Prop :=
  bin_Size.j1 b_0 0 Q w

theorem bin_Size.ok (b_0 : Sl) (Q : Value → World → Prop) (w : World) (h : bin_Size b_0 Q w) : Calls Try.prog 92 ⟨[.slice b_0.a b_0.len b_0.cap]⟩ w (Ret Q) := by
  refine calls_of_wpc [.tmp 2, .tmp 3, .tmp 4] Try.func92 rfl rfl rfl rfl ?_
  refine wpc_seq (fun ρ w => asL (ρ 0) fun b_0 => asI .i64 (ρ 2) fun v_2 => bin_Size.j1 b_0 v_2 Q w) ?_ ?_
  · skip
    exact pt_sound hmix _ (Eq.mp (by kernel_rfl) h)
  · intro ρ w h
    obtain ⟨b_0, e0, h⟩ := asL_el h
    obtain ⟨v_2, e2, h⟩ := asI_el h
    refine reroot e0 (reroot (upd_other e2 rfl) ?_)
    refine wpc_seq (fun ρ w => asL (ρ 0) fun b_0 => bin_Size.j2 b_0 Q w) ?_ ?_
    · skip
      refine wpc_seq (fun ρ w => asL (ρ 0) fun b_0 => asI .i64 (ρ 2) fun v_2 => asL (ρ 7) fun t7 => asI .i64 (ρ 8) fun t8 => asI .i64 (ρ 9) fun t9 => bin_Size.j3 b_0 v_2 t7 t8 t9 Q w) ?_ ?_
      · skip
        exact pt_sound hmix _ (Eq.mp (by kernel_rfl) h)
      · intro ρ w h
        obtain ⟨b_0, e0, h⟩ := asL_el h
        obtain ⟨v_2, e2, h⟩ := asI_el h
        obtain ⟨t7, e7, h⟩ := asL_el h
        obtain ⟨t8, e8, h⟩ := asI_el h
        obtain ⟨t9, e9, h⟩ := asI_el h
        refine reroot e0 (reroot (upd_other e2 rfl) (reroot (upd_other (upd_other e7 rfl) rfl) (reroot (upd_other (upd_other (upd_other e8 rfl) rfl) rfl) (reroot (upd_other (upd_other (upd_other (upd_other e9 rfl) rfl) rfl) rfl) ?_))))
        refine wpc_block ?_
        obtain ⟨I, μ, hI, hr⟩ := h
        refine wpc_loopS (α := Int × Int) (fun s ρ => ρ 2 = .int .i64 s.1 ∧ ρ 9 = .int .i64 s.2 ∧ ρ 0 = .slice b_0.a b_0.len b_0.cap ∧ ρ 7 = .slice t7.a t7.len t7.cap ∧ ρ 8 = .int .i64 t8) (fun s w => I s.1 s.2 w) (fun s w => μ s.1 s.2 w) (v_2, t9) ⟨rfl, rfl, rfl, rfl, rfl⟩ hI ?_
        rintro ⟨v_2, t9⟩ ρ w ⟨e2, e9, e0, e7, e8⟩ hI
        have h := hr v_2 t9 w hI
        clear hr
        obtain ⟨nx1, hnx⟩ : ∃ nx : Sl → Sl → Int → Int → Int → World → Prop, nx = (fun b_0' t7' t8' v_2' t9' w' => (b_0' = b_0 ∧ t7' = t7 ∧ t8' = t8) ∧ I v_2' t9' w' ∧ μ v_2' t9' w' < μ v_2 t9 w) := ⟨_, rfl⟩
        rw [← hnx] at h
        refine wpc_norm (M := fun ρ w => asL (ρ 0) fun b_0 => asL (ρ 7) fun t7 => asI .i64 (ρ 8) fun t8 => asI .i64 (ρ 2) fun v_2 => asI .i64 (ρ 9) fun t9 => nx1 b_0 t7 t8 v_2 t9 w) ?_ (fun ρ w h => ?_)
        · skip
          refine reroot e0 (reroot (upd_other e2 rfl) (reroot (upd_other (upd_other e7 rfl) rfl) (reroot (upd_other (upd_other (upd_other e8 rfl) rfl) rfl) (reroot (upd_other (upd_other (upd_other (upd_other e9 rfl) rfl) rfl) rfl) ?_))))
          exact pt_sound hmix _ (Eq.mp (by kernel_rfl) h)
        · skip
          obtain ⟨b_0', e0', h⟩ := asL_el h
          obtain ⟨t7', e7', h⟩ := asL_el h
          obtain ⟨t8', e8', h⟩ := asI_el h
          obtain ⟨v_2', e2', h⟩ := asI_el h
          obtain ⟨t9', e9', h⟩ := asI_el h
          rw [hnx] at h
          obtain ⟨hu, hI2, hμ⟩ := h
          obtain ⟨rfl, rfl, rfl⟩ := hu
          exact ⟨(v_2', t9'), ⟨e2', e9', e0', e7', e8'⟩, hI2, hμ⟩
    · intro ρ w h
      obtain ⟨b_0, e0, h⟩ := asL_el h
      refine reroot e0 ?_
      exact pt_sound hmix _ (Eq.mp (by kernel_rfl) h)

/-! trove/bin.PutOffset -/
def bin_PutOffset.j3 (out_5 : Sl) (l_6 : Sl) (Q : Value → World → Prop) (w : World) : Prop :=
  Calls Try.prog 135 ⟨[.slice l_6.a l_6.len l_6.cap]⟩ w fun e1 w2 =>
  e1 = .returned (.tuple ⟨[]⟩) ∧
  rdO w2 l_6.a (l_6.len * 1) fun c3 =>
  apK Try.prog 5 w2 out_5.a out_5.len out_5.cap l_6.len c3 fun s4 w5 =>
  Calls Try.prog 125 ⟨[.slice s4.a s4.len s4.cap]⟩ w5 fun e6 w7 =>
  ∃ r8 : Sl, e6 = .returned (.slice r8.a r8.len r8.cap) ∧
  Q (.slice r8.a r8.len r8.cap) w7

def bin_PutOffset.b1 (out_5 : Sl) (v_1 : Int) (l_6 : Sl) (Q : Value → World → Prop) (nx1 : Sl → Int → Sl → World → Prop) (w : World) : Prop :=
  br (decide ((v_1 : Int) > 0)) (
  lt (IntKind.i64.wrap (v_1 - 1)) fun x9 =>
  lt (andV .i64 x9 127) fun x10 =>
  lt (orV .i64 x10 128) fun x11 =>
  lt (IntKind.u8.wrap x11) fun x12 =>
  lt (⟨World.heapSize w, 0, none⟩ : Addr) fun a13 =>
  lt (World.alloc w (.cells ⟨[.int .u8 x12]⟩ 5)) fun w14 =>
  rdO w14 (some a13) (1 * 1) fun c15 =>
  apK Try.prog 5 w14 l_6.a l_6.len l_6.cap 1 c15 fun s16 w17 =>
  (0 : Int) ≤ 7 ∧
  lt (shrV .i64 x9 7) fun x18 =>
  nx1 out_5 x18 s16 w17) (
  bin_PutOffset.j3 out_5 l_6 Q w)

def bin_PutOffset.l1 (out_5 : Sl) (v_1 : Int) (l_6 : Sl) (Q : Value → World → Prop) (w : World) : Prop :=
  ∃ (I : Int → Sl → World → Prop) (μ : Int → Sl → World → Nat), I v_1 l_6 w ∧ ∀ v_1 : Int, ∀ l_6 : Sl, ∀ w : World, I v_1 l_6 w → bin_PutOffset.b1 out_5 v_1 l_6 Q (fun out_5' v_1' l_6' w' => (out_5' = out_5) ∧ I v_1' l_6' w' ∧ μ v_1' l_6' w' < μ v_1 l_6 w) w

def bin_PutOffset.j4 (v_1 : Int) (out_5 : Sl) (l_6 : Sl) (Q : Value → World → Prop) (w : World) : Prop :=
  bin_PutOffset.l1 out_5 v_1 l_6 Q w

def bin_PutOffset.j2 (v_1 : Int) (out_5 : Sl) (l_6 : Sl) (Q : Value → World → Prop) (w : World) : Prop :=
  (0 : Int) ≤ 7 ∧
  lt (shrV .i64 v_1 7) fun x19 =>
  bin_PutOffset.j4 x19 out_5 l_6 Q w

def bin_PutOffset.j1 (v_1 : Int) (out_5 : Sl) (Q : Value → World → Prop) (w : World) : Prop :=
  br (decide ((v_1 : Int) < 0)) (
  Q (.slice out_5.a out_5.len out_5.cap) w) (
  lt (andV .i64 v_1 127) fun x20 =>
  lt (IntKind.u8.wrap x20) fun x21 =>
  lt (⟨World.heapSize w, 0, none⟩ : Addr) fun a22 =>
  lt (World.alloc w (.cells ⟨[.int .u8 x21]⟩ 5)) fun w23 =>
  bin_PutOffset.j2 v_1 out_5 ⟨(some a22), 1, 1⟩ Q w23)

def bin_PutOffset (b_0 : Sl) (v_1 : Int) (Q : Value → World → Prop) (w : World) : Prop :=
  Calls Try.prog 124 ⟨[.slice b_0.a b_0.len b_0.cap]⟩ w fun e24 w25 =>
  ∃ r26 : Sl, e24 = .returned (.slice r26.a r26.len r26.cap) ∧
  bin_PutOffset.j1 v_1 r26 Q w25

theorem bin_PutOffset.ok (b_0 : Sl) (v_1 : Int) (Q : Value → World → Prop) (w : World) (h : bin_PutOffset b_0 v_1 Q w) : Calls Try.prog 89 ⟨[.slice b_0.a b_0.len b_0.cap, .int .i64 v_1]⟩ w (Ret Q) := by
  refine calls_of_wpc [.tmp 4] Try.func89 rfl rfl rfl rfl ?_
  refine wpc_pre2 hmix (fun ρ w => asI .i64 (ρ 1) fun v_1 => asL (ρ 5) fun out_5 => bin_PutOffset.j1 v_1 out_5 Q w) (Eq.mp (by kernel_rfl) h) ?_
  intro ρ w h
  obtain ⟨v_1, e1, h⟩ := asI_el h
  obtain ⟨out_5, e5, h⟩ := asL_el h
  refine reroot e1 (reroot (upd_other e5 rfl) ?_)
  refine wpc_pre2 hmix (fun ρ w => asI .i64 (ρ 1) fun v_1 => asL (ρ 5) fun out_5 => asL (ρ 6) fun l_6 => bin_PutOffset.j2 v_1 out_5 l_6 Q w) (Eq.mp (by kernel_rfl) h) ?_
  intro ρ w h
  obtain ⟨v_1, e1, h⟩ := asI_el h
  obtain ⟨out_5, e5, h⟩ := asL_el h
  obtain ⟨l_6, e6, h⟩ := asL_el h
  refine reroot e1 (reroot (upd_other e5 rfl) (reroot (upd_other (upd_other e6 rfl) rfl) ?_))
  refine wpc_seq (fun ρ w => asL (ρ 5) fun out_5 => asL (ρ 6) fun l_6 => bin_PutOffset.j3 out_5 l_6 Q w) ?_ ?_
  · skip
    refine wpc_seq (fun ρ w => asI .i64 (ρ 1) fun v_1 => asL (ρ 5) fun out_5 => asL (ρ 6) fun l_6 => bin_PutOffset.j4 v_1 out_5 l_6 Q w) ?_ ?_
    · skip
      exact pt_sound hmix _ (Eq.mp (by kernel_rfl) h)
    · intro ρ w h
      obtain ⟨v_1, e1, h⟩ := asI_el h
      obtain ⟨out_5, e5, h⟩ := asL_el h
      obtain ⟨l_6, e6, h⟩ := asL_el h
      refine reroot e1 (reroot (upd_other e5 rfl) (reroot (upd_other (upd_other e6 rfl) rfl) ?_))
      refine wpc_block ?_
      obtain ⟨I, μ, hI, hr⟩ := h
      refine wpc_loopS (α := Int × Sl) (fun s ρ => ρ 1 = .int .i64 s.1 ∧ ρ 6 = .slice s.2.a s.2.len s.2.cap ∧ ρ 5 = .slice out_5.a out_5.len out_5.cap) (fun s w => I s.1 s.2 w) (fun s w => μ s.1 s.2 w) (v_1, l_6) ⟨rfl, rfl, rfl⟩ hI ?_
      rintro ⟨v_1, l_6⟩ ρ w ⟨e1, e6, e5⟩ hI
      have h := hr v_1 l_6 w hI
      clear hr
      obtain ⟨nx1, hnx⟩ : ∃ nx : Sl → Int → Sl → World → Prop, nx = (fun out_5' v_1' l_6' w' => (out_5' = out_5) ∧ I v_1' l_6' w' ∧ μ v_1' l_6' w' < μ v_1 l_6 w) := ⟨_, rfl⟩
      rw [← hnx] at h
      refine wpc_norm (M := fun ρ w => asL (ρ 5) fun out_5 => asI .i64 (ρ 1) fun v_1 => asL (ρ 6) fun l_6 => nx1 out_5 v_1 l_6 w) ?_ (fun ρ w h => ?_)
      · skip
        refine reroot e1 (reroot (upd_other e5 rfl) (reroot (upd_other (upd_other e6 rfl) rfl) ?_))
        exact pt_sound hmix _ (Eq.mp (by kernel_rfl) h)
      · skip
        obtain ⟨out_5', e5', h⟩ := asL_el h
        obtain ⟨v_1', e1', h⟩ := asI_el h
        obtain ⟨l_6', e6', h⟩ := asL_el h
        rw [hnx] at h
        obtain ⟨hu, hI2, hμ⟩ := h
        obtain rfl := hu
        exact ⟨(v_1', l_6'), ⟨e1', e6', e5'⟩, hI2, hμ⟩
  · intro ρ w h
    obtain ⟨out_5, e5, h⟩ := asL_el h
    obtain ⟨l_6, e6, h⟩ := asL_el h
    refine reroot e5 (reroot (upd_other e6 rfl) ?_)
    exact pt_sound hmix _ (Eq.mp (by kernel_rfl) h)

/-! trove/bin.Offset -/
def bin_Offset.j2 (b_0 : Sl) (Q : Value → World → Prop) (w : World) : Prop :=
  br (decide ((((b_0.len : Nat) : Int) : Int) ≥ 8)) (
  Q (.tuple ⟨[.int .i64 0, .int .i64 0, .int .i64 5]⟩) w) (
  Q (.tuple ⟨[.int .i64 0, .int .i64 0, .int .i64 3]⟩) w)

def bin_Offset.j5 (b_0 : Sl) (v_2 : Int) (t7 : Sl) (t8 : Int) (t9 : Int) (Q : Value → World → Prop) (nx1 : Sl → Sl → Int → Int → Int → World → Prop) (w : World) : Prop :=
  lt (IntKind.i64.wrap (t9 + 1)) fun x1 =>
  nx1 b_0 t7 t8 v_2 x1 w

def bin_Offset.j7 (b_0 : Sl) (v_2 : Int) (i_5 : Int) (c_6 : Int) (t7 : Sl) (t8 : Int) (t9 : Int) (Q : Value → World → Prop) (nx1 : Sl → Sl → Int → Int → Int → World → Prop) (w : World) : Prop :=
  lt (andV .u8 c_6 127) fun x2 =>
  lt (IntKind.i64.wrap x2) fun x3 =>
  lt (orV .i64 v_2 x3) fun x4 =>
  br (decide ((c_6 : Int) < 128)) (
  lt (IntKind.i64.wrap (i_5 + 1)) fun x5 =>
  Q (.tuple ⟨[.int .i64 x4, .int .i64 x5, .int .i64 0]⟩) w) (
  bin_Offset.j5 b_0 x4 t7 t8 t9 Q nx1 w)

def bin_Offset.j6 (b_0 : Sl) (v_2 : Int) (i_5 : Int) (c_6 : Int) (t7 : Sl) (t8 : Int) (t9 : Int) (Q : Value → World → Prop) (nx1 : Sl → Sl → Int → Int → Int → World → Prop) (w : World) : Prop :=
  br ((i_5 : Int) == 8) (
  Q (.tuple ⟨[.int .i64 0, .int .i64 0, .int .i64 5]⟩) w) (
  br (decide ((i_5 : Int) > 0)) (
  lt (IntKind.i64.wrap (v_2 + 1)) fun x6 =>
  (0 : Int) ≤ 7 ∧
  lt (shlV .i64 x6 7) fun x7 =>
  bin_Offset.j7 b_0 x7 i_5 c_6 t7 t8 t9 Q nx1 w) (
  bin_Offset.j7 b_0 v_2 i_5 c_6 t7 t8 t9 Q nx1 w))

def bin_Offset.j4 (b_0 : Sl) (v_2 : Int) (t7 : Sl) (t8 : Int) (t9 : Int) (Q : Value → World → Prop) (nx1 : Sl → Sl → Int → Int → Int → World → Prop) (w : World) : Prop :=
  ixS t7.a t7.len t9 1 fun a8 =>
  ldI .u8 w a8 fun x9 =>
  bin_Offset.j6 b_0 v_2 t9 x9 t7 t8 t9 Q nx1 w

def bin_Offset.b1 (b_0 : Sl) (t7 : Sl) (t8 : Int) (v_2 : Int) (t9 : Int) (Q : Value → World → Prop) (nx1 : Sl → Sl → Int → Int → Int → World → Prop) (w : World) : Prop :=
  br (decide ((t9 : Int) < t8)) (
  bin_Offset.j4 b_0 v_2 t7 t8 t9 Q nx1 w) (
  bin_Offset.j2 b_0 Q w)

def bin_Offset.l1 (b_0 : Sl) (t7 : Sl) (t8 : Int) (v_2 : Int) (t9 : Int) (Q : Value → World → Prop) (w : World) : Prop :=
  ∃ (I : Int → Int → World → Prop) (μ : Int → Int → World → Nat), I v_2 t9 w ∧ ∀ v_2 : Int, ∀ t9 : Int, ∀ w : World, I v_2 t9 w → bin_Offset.b1 b_0 t7 t8 v_2 t9 Q (fun b_0' t7' t8' v_2' t9' w' => (b_0' = b_0 ∧ t7' = t7 ∧ t8' = t8) ∧ I v_2' t9' w' ∧ μ v_2' t9' w' < μ v_2 t9 w) w

def bin_Offset.j3 (b_0 : Sl) (v_2 : Int) (t7 : Sl) (t8 : Int) (t9 : Int) (Q : Value → World → Prop) (w : World) : Prop :=
  bin_Offset.l1 b_0 t7 t8 v_2 t9 Q w

def bin_Offset.j1 (b_0 : Sl) (v_2 : Int) (Q : Value → World → Prop) (w : World) : Prop :=
  bin_Offset.j3 b_0 v_2 b_0 ((b_0.len : Nat) : Int) 0 Q w

def bin_Offset (b_0 : Sl) (Q : Value → World → Prop) (w : World) : Prop :=
  bin_Offset.j1 b_0 0 Q w

theorem bin_Offset.ok (b_0 : Sl) (Q : Value → World → Prop) (w : World) (h : bin_Offset b_0 Q w) : Calls Try.prog 93 ⟨[.slice b_0.a b_0.len b_0.cap]⟩ w (Ret Q) := by
  refine calls_of_wpc [.tmp 2, .tmp 3, .tmp 4] Try.func93 rfl rfl rfl rfl ?_
  refine wpc_seq (fun ρ w => asL (ρ 0) fun b_0 => asI .i64 (ρ 2) fun v_2 => bin_Offset.j1 b_0 v_2 Q w) ?_ ?_
  · skip
    exact pt_sound hmix _ (Eq.mp (by kernel_rfl) h)
  · intro ρ w h
    obtain ⟨b_0, e0, h⟩ := asL_el h
    obtain ⟨v_2, e2, h⟩ := asI_el h
    refine reroot e0 (reroot (upd_other e2 rfl) ?_)
    refine wpc_seq (fun ρ w => asL (ρ 0) fun b_0 => bin_Offset.j2 b_0 Q w) ?_ ?_
    · skip
      refine wpc_seq (fun ρ w => asL (ρ 0) fun b_0 => asI .i64 (ρ 2) fun v_2 => asL (ρ 7) fun t7 => asI .i64 (ρ 8) fun t8 => asI .i64 (ρ 9) fun t9 => bin_Offset.j3 b_0 v_2 t7 t8 t9 Q w) ?_ ?_
      · skip
        exact pt_sound hmix _ (Eq.mp (by kernel_rfl) h)
      · intro ρ w h
        obtain ⟨b_0, e0, h⟩ := asL_el h
        obtain ⟨v_2, e2, h⟩ := asI_el h
        obtain ⟨t7, e7, h⟩ := asL_el h
        obtain ⟨t8, e8, h⟩ := asI_el h
        obtain ⟨t9, e9, h⟩ := asI_el h
        refine reroot e0 (reroot (upd_other e2 rfl) (reroot (upd_other (upd_other e7 rfl) rfl) (reroot (upd_other (upd_other (upd_other e8 rfl) rfl) rfl) (reroot (upd_other (upd_other (upd_other (upd_other e9 rfl) rfl) rfl) rfl) ?_))))
        refine wpc_block ?_
        obtain ⟨I, μ, hI, hr⟩ := h
        refine wpc_loopS (α := Int × Int) (fun s ρ => ρ 2 = .int .i64 s.1 ∧ ρ 9 = .int .i64 s.2 ∧ ρ 0 = .slice b_0.a b_0.len b_0.cap ∧ ρ 7 = .slice t7.a t7.len t7.cap ∧ ρ 8 = .int .i64 t8) (fun s w => I s.1 s.2 w) (fun s w => μ s.1 s.2 w) (v_2, t9) ⟨rfl, rfl, rfl, rfl, rfl⟩ hI ?_
        rintro ⟨v_2, t9⟩ ρ w ⟨e2, e9, e0, e7, e8⟩ hI
        have h := hr v_2 t9 w hI
        clear hr
        obtain ⟨nx1, hnx⟩ : ∃ nx : Sl → Sl → Int → Int → Int → World → Prop, nx = (fun b_0' t7' t8' v_2' t9' w' => (b_0' = b_0 ∧ t7' = t7 ∧ t8' = t8) ∧ I v_2' t9' w' ∧ μ v_2' t9' w' < μ v_2 t9 w) := ⟨_, rfl⟩
        rw [← hnx] at h
        refine wpc_norm (M := fun ρ w => asL (ρ 0) fun b_0 => asL (ρ 7) fun t7 => asI .i64 (ρ 8) fun t8 => asI .i64 (ρ 2) fun v_2 => asI .i64 (ρ 9) fun t9 => nx1 b_0 t7 t8 v_2 t9 w) ?_ (fun ρ w h => ?_)
        · skip
          refine reroot e0 (reroot (upd_other e2 rfl) (reroot (upd_other (upd_other e7 rfl) rfl) (reroot (upd_other (upd_other (upd_other e8 rfl) rfl) rfl) (reroot (upd_other (upd_other (upd_other (upd_other e9 rfl) rfl) rfl) rfl) ?_))))
          refine wpc_pre2 hmix (fun ρ w => asL (ρ 0) fun b_0 => asI .i64 (ρ 2) fun v_2 => asL (ρ 7) fun t7 => asI .i64 (ρ 8) fun t8 => asI .i64 (ρ 9) fun t9 => bin_Offset.j4 b_0 v_2 t7 t8 t9 Q nx1 w) (Eq.mp (by kernel_rfl) h) ?_
          intro ρ w h
          obtain ⟨b_0, e0, h⟩ := asL_el h
          obtain ⟨v_2, e2, h⟩ := asI_el h
          obtain ⟨t7, e7, h⟩ := asL_el h
          obtain ⟨t8, e8, h⟩ := asI_el h
          obtain ⟨t9, e9, h⟩ := asI_el h
          refine reroot e0 (reroot (upd_other e2 rfl) (reroot (upd_other (upd_other e7 rfl) rfl) (reroot (upd_other (upd_other (upd_other e8 rfl) rfl) rfl) (reroot (upd_other (upd_other (upd_other (upd_other e9 rfl) rfl) rfl) rfl) ?_))))
          refine wpc_seq (fun ρ w => asL (ρ 0) fun b_0 => asI .i64 (ρ 2) fun v_2 => asL (ρ 7) fun t7 => asI .i64 (ρ 8) fun t8 => asI .i64 (ρ 9) fun t9 => bin_Offset.j5 b_0 v_2 t7 t8 t9 Q nx1 w) ?_ ?_
          · skip
            refine wpc_block ?_
            refine wpc_seq (fun ρ w => asL (ρ 0) fun b_0 => asI .i64 (ρ 2) fun v_2 => asI .i64 (ρ 5) fun i_5 => asI .u8 (ρ 6) fun c_6 => asL (ρ 7) fun t7 => asI .i64 (ρ 8) fun t8 => asI .i64 (ρ 9) fun t9 => bin_Offset.j6 b_0 v_2 i_5 c_6 t7 t8 t9 Q nx1 w) ?_ ?_
            · skip
              exact pt_sound hmix _ (Eq.mp (by kernel_rfl) h)
            · intro ρ w h
              obtain ⟨b_0, e0, h⟩ := asL_el h
              obtain ⟨v_2, e2, h⟩ := asI_el h
              obtain ⟨i_5, e5, h⟩ := asI_el h
              obtain ⟨c_6, e6, h⟩ := asI_el h
              obtain ⟨t7, e7, h⟩ := asL_el h
              obtain ⟨t8, e8, h⟩ := asI_el h
              obtain ⟨t9, e9, h⟩ := asI_el h
              refine reroot e0 (reroot (upd_other e2 rfl) (reroot (upd_other (upd_other e5 rfl) rfl) (reroot (upd_other (upd_other (upd_other e6 rfl) rfl) rfl) (reroot (upd_other (upd_other (upd_other (upd_other e7 rfl) rfl) rfl) rfl) (reroot (upd_other (upd_other (upd_other (upd_other (upd_other e8 rfl) rfl) rfl) rfl) rfl) (reroot (upd_other (upd_other (upd_other (upd_other (upd_other (upd_other e9 rfl) rfl) rfl) rfl) rfl) rfl) ?_))))))
              refine wpc_pre2 hmix (fun ρ w => asL (ρ 0) fun b_0 => asI .i64 (ρ 2) fun v_2 => asI .i64 (ρ 5) fun i_5 => asI .u8 (ρ 6) fun c_6 => asL (ρ 7) fun t7 => asI .i64 (ρ 8) fun t8 => asI .i64 (ρ 9) fun t9 => bin_Offset.j7 b_0 v_2 i_5 c_6 t7 t8 t9 Q nx1 w) (Eq.mp (by kernel_rfl) h) ?_
              intro ρ w h
              obtain ⟨b_0, e0, h⟩ := asL_el h
              obtain ⟨v_2, e2, h⟩ := asI_el h
              obtain ⟨i_5, e5, h⟩ := asI_el h
              obtain ⟨c_6, e6, h⟩ := asI_el h
              obtain ⟨t7, e7, h⟩ := asL_el h
              obtain ⟨t8, e8, h⟩ := asI_el h
              obtain ⟨t9, e9, h⟩ := asI_el h
              refine reroot e0 (reroot (upd_other e2 rfl) (reroot (upd_other (upd_other e5 rfl) rfl) (reroot (upd_other (upd_other (upd_other e6 rfl) rfl) rfl) (reroot (upd_other (upd_other (upd_other (upd_other e7 rfl) rfl) rfl) rfl) (reroot (upd_other (upd_other (upd_other (upd_other (upd_other e8 rfl) rfl) rfl) rfl) rfl) (reroot (upd_other (upd_other (upd_other (upd_other (upd_other (upd_other e9 rfl) rfl) rfl) rfl) rfl) rfl) ?_))))))
              exact pt_sound hmix _ (Eq.mp (by kernel_rfl) h)
          · intro ρ w h
            obtain ⟨b_0, e0, h⟩ := asL_el h
            obtain ⟨v_2, e2, h⟩ := asI_el h
            obtain ⟨t7, e7, h⟩ := asL_el h
            obtain ⟨t8, e8, h⟩ := asI_el h
            obtain ⟨t9, e9, h⟩ := asI_el h
            refine reroot e0 (reroot (upd_other e2 rfl) (reroot (upd_other (upd_other e7 rfl) rfl) (reroot (upd_other (upd_other (upd_other e8 rfl) rfl) rfl) (reroot (upd_other (upd_other (upd_other (upd_other e9 rfl) rfl) rfl) rfl) ?_))))
            exact pt_sound hmix _ (Eq.mp (by kernel_rfl) h)
        · skip
          obtain ⟨b_0', e0', h⟩ := asL_el h
          obtain ⟨t7', e7', h⟩ := asL_el h
          obtain ⟨t8', e8', h⟩ := asI_el h
          obtain ⟨v_2', e2', h⟩ := asI_el h
          obtain ⟨t9', e9', h⟩ := asI_el h
          rw [hnx] at h
          obtain ⟨hu, hI2, hμ⟩ := h
          obtain ⟨rfl, rfl, rfl⟩ := hu
          exact ⟨(v_2', t9'), ⟨e2', e9', e0', e7', e8'⟩, hI2, hμ⟩
    · intro ρ w h
      obtain ⟨b_0, e0, h⟩ := asL_el h
      refine reroot e0 ?_
      exact pt_sound hmix _ (Eq.mp (by kernel_rfl) h)

end Go.Proofs.Ytkajimndclhgaaa
