/- PRINTED BY gen.py (own work): what calls come to, and the proofs of it. -/
import Derived.Test.YtkajimndclhgaaaVcJ
import Derived.Test.YtkajimndclhgaaaProg
namespace Go.Proofs.Ytkajimndclhgaaa
open Go Go.Proofs
set_option linter.unusedVariables false
set_option maxRecDepth 100000

/-! trove/lz.wrong -/
def lz_wrong (t_0 : (Array Value)) (at_1 : Int) (Q : Value → World → Prop) (w : World) : Prop :=
  lt (⟨World.heapSize w, 0, none⟩ : Addr) fun a1 =>
  lt (World.alloc w (.cells t_0 78)) fun w2 =>
  ldI .i64 w2 (Addr.add a1 1) fun x3 =>
  br ((x3 : Int) == 0) (
  ldI .i64 w2 (Addr.add a1 2) fun x4 =>
  Q (.bool ((x4 : Int) != 0)) w2) (
  ldI .u8 w2 (Addr.add a1 0) fun x5 =>
  br ((x5 : Int) != 0) (
  Q (.bool true) w2) (
  ldI .i64 w2 (Addr.add a1 1) fun x6 =>
  br (decide ((x6 : Int) < 3)) (
  Q (.bool true) w2) (
  ldI .i64 w2 (Addr.add a1 1) fun x7 =>
  br (decide ((x7 : Int) > 258)) (
  Q (.bool true) w2) (
  ldI .i64 w2 (Addr.add a1 2) fun x8 =>
  br (decide ((x8 : Int) < 1)) (
  Q (.bool true) w2) (
  ldI .i64 w2 (Addr.add a1 2) fun x9 =>
  br (decide ((x9 : Int) > 32768)) (
  Q (.bool true) w2) (
  ldI .i64 w2 (Addr.add a1 2) fun x10 =>
  Q (.bool (decide ((x10 : Int) > at_1))) w2))))))

theorem lz_wrong.ok (t_0 : (Array Value)) (at_1 : Int) (Q : Value → World → Prop) (w : World) (h : lz_wrong t_0 at_1 Q w) : Calls Try.prog 128 ⟨[.agg t_0, .int .i64 at_1]⟩ w (Ret Q) := by
  refine calls_of_wpc [.tmp 4] Try.func128 rfl rfl rfl rfl ?_
  exact pt_sound hmix _ (Eq.mp (by kernel_rfl) h)

/-! trove/lz.Check -/
def lz_Check.j2  (Q : Value → World → Prop) (w : World) : Prop :=
  Q (.int .i64 0) w

def lz_Check.b1 (t6 : Sl) (t7 : Int) (at_3 : Int) (t8 : Int) (Q : Value → World → Prop) (nx1 : Sl → Int → Int → Int → World → Prop) (w : World) : Prop :=
  br (decide ((t8 : Int) < t7)) (
  ixS t6.a t6.len t8 3 fun a1 =>
  ldA w a1 3 fun c2 =>
  lt (⟨World.heapSize w, 0, none⟩ : Addr) fun a3 =>
  lt (World.alloc w (.cells (zc Try.prog 78) 78)) fun w4 =>
  (c2).size = 3 ∧
  stA w4 a3 c2 fun w5 =>
  ldA w5 a3 3 fun c6 =>
  Calls Try.prog 128 ⟨[.agg c6, .int .i64 at_3]⟩ w5 fun e7 w8 =>
  ∃ r9 : Bool, e7 = .returned (.bool r9) ∧
  br r9 (
  Q (.int .i64 2) w8) (
  ldI .i64 w8 (Addr.add a3 1) fun x10 =>
  lt (if (1 : Int) > x10 then 1 else x10) fun x11 =>
  lt (IntKind.i64.wrap (at_3 + x11)) fun x12 =>
  lt (if (32768 : Int) < x12 then 32768 else x12) fun x13 =>
  lt (IntKind.i64.wrap (t8 + 1)) fun x14 =>
  nx1 t6 t7 x13 x14 w8)) (
  lz_Check.j2 Q w)

def lz_Check.l1 (t6 : Sl) (t7 : Int) (at_3 : Int) (t8 : Int) (Q : Value → World → Prop) (w : World) : Prop :=
  ∃ (I : Int → Int → World → Prop) (μ : Int → Int → World → Nat), I at_3 t8 w ∧ ∀ at_3 : Int, ∀ t8 : Int, ∀ w : World, I at_3 t8 w → lz_Check.b1 t6 t7 at_3 t8 Q (fun t6' t7' at_3' t8' w' => (t6' = t6 ∧ t7' = t7) ∧ I at_3' t8' w' ∧ μ at_3' t8' w' < μ at_3 t8 w) w

def lz_Check.j3 (at_3 : Int) (t6 : Sl) (t7 : Int) (t8 : Int) (Q : Value → World → Prop) (w : World) : Prop :=
  lz_Check.l1 t6 t7 at_3 t8 Q w

def lz_Check.j1 (l_0 : Sl) (at_3 : Int) (Q : Value → World → Prop) (w : World) : Prop :=
  lz_Check.j3 at_3 l_0 ((l_0.len : Nat) : Int) 0 Q w

def lz_Check (l_0 : Sl) (Q : Value → World → Prop) (w : World) : Prop :=
  lz_Check.j1 l_0 0 Q w

theorem lz_Check.ok (l_0 : Sl) (Q : Value → World → Prop) (w : World) (h : lz_Check l_0 Q w) : Calls Try.prog 68 ⟨[.slice l_0.a l_0.len l_0.cap]⟩ w (Ret Q) := by
  refine calls_of_wpc [.tmp 2] Try.func68 rfl rfl rfl rfl ?_
  refine wpc_pre2 hmix (fun ρ w => asL (ρ 0) fun l_0 => asI .i64 (ρ 3) fun at_3 => lz_Check.j1 l_0 at_3 Q w) (Eq.mp (by kernel_rfl) h) ?_
  intro ρ w h
  obtain ⟨l_0, e0, h⟩ := asL_el h
  obtain ⟨at_3, e3, h⟩ := asI_el h
  refine reroot e0 (reroot (upd_other e3 rfl) ?_)
  refine wpc_seq (fun ρ w =>  lz_Check.j2  Q w) ?_ ?_
  · skip
    refine wpc_seq (fun ρ w => asI .i64 (ρ 3) fun at_3 => asL (ρ 6) fun t6 => asI .i64 (ρ 7) fun t7 => asI .i64 (ρ 8) fun t8 => lz_Check.j3 at_3 t6 t7 t8 Q w) ?_ ?_
    · skip
      exact pt_sound hmix _ (Eq.mp (by kernel_rfl) h)
    · intro ρ w h
      obtain ⟨at_3, e3, h⟩ := asI_el h
      obtain ⟨t6, e6, h⟩ := asL_el h
      obtain ⟨t7, e7, h⟩ := asI_el h
      obtain ⟨t8, e8, h⟩ := asI_el h
      refine reroot e3 (reroot (upd_other e6 rfl) (reroot (upd_other (upd_other e7 rfl) rfl) (reroot (upd_other (upd_other (upd_other e8 rfl) rfl) rfl) ?_)))
      refine wpc_block ?_
      obtain ⟨I, μ, hI, hr⟩ := h
      refine wpc_loopS (α := Int × Int) (fun s ρ => ρ 3 = .int .i64 s.1 ∧ ρ 8 = .int .i64 s.2 ∧ ρ 6 = .slice t6.a t6.len t6.cap ∧ ρ 7 = .int .i64 t7) (fun s w => I s.1 s.2 w) (fun s w => μ s.1 s.2 w) (at_3, t8) ⟨rfl, rfl, rfl, rfl⟩ hI ?_
      rintro ⟨at_3, t8⟩ ρ w ⟨e3, e8, e6, e7⟩ hI
      have h := hr at_3 t8 w hI
      clear hr
      obtain ⟨nx1, hnx⟩ : ∃ nx : Sl → Int → Int → Int → World → Prop, nx = (fun t6' t7' at_3' t8' w' => (t6' = t6 ∧ t7' = t7) ∧ I at_3' t8' w' ∧ μ at_3' t8' w' < μ at_3 t8 w) := ⟨_, rfl⟩
      rw [← hnx] at h
      refine wpc_norm (M := fun ρ w => asL (ρ 6) fun t6 => asI .i64 (ρ 7) fun t7 => asI .i64 (ρ 3) fun at_3 => asI .i64 (ρ 8) fun t8 => nx1 t6 t7 at_3 t8 w) ?_ (fun ρ w h => ?_)
      · skip
        refine reroot e3 (reroot (upd_other e6 rfl) (reroot (upd_other (upd_other e7 rfl) rfl) (reroot (upd_other (upd_other (upd_other e8 rfl) rfl) rfl) ?_)))
        exact pt_sound hmix _ (Eq.mp (by kernel_rfl) h)
      · skip
        obtain ⟨t6', e6', h⟩ := asL_el h
        obtain ⟨t7', e7', h⟩ := asI_el h
        obtain ⟨at_3', e3', h⟩ := asI_el h
        obtain ⟨t8', e8', h⟩ := asI_el h
        rw [hnx] at h
        obtain ⟨hu, hI2, hμ⟩ := h
        obtain ⟨rfl, rfl⟩ := hu
        exact ⟨(at_3', t8'), ⟨e3', e8', e6', e7'⟩, hI2, hμ⟩
  · intro ρ w h
    exact pt_sound hmix _ (Eq.mp (by kernel_rfl) h)

/-! trove/lz.Size -/
def lz_Size.j2 (n_3 : Int) (Q : Value → World → Prop) (w : World) : Prop :=
  Q (.int .i64 n_3) w

def lz_Size.b1 (t7 : Sl) (t8 : Int) (n_3 : Int) (t9 : Int) (Q : Value → World → Prop) (nx1 : Sl → Int → Int → Int → World → Prop) (w : World) : Prop :=
  br (decide ((t9 : Int) < t8)) (
  ixS t7.a t7.len t9 3 fun a1 =>
  ldA w a1 3 fun c2 =>
  lt (⟨World.heapSize w, 0, none⟩ : Addr) fun a3 =>
  lt (World.alloc w (.cells (zc Try.prog 78) 78)) fun w4 =>
  (c2).size = 3 ∧
  stA w4 a3 c2 fun w5 =>
  ldI .i64 w5 (Addr.add a3 1) fun x6 =>
  ldI .i64 w5 (Addr.add a3 1) fun x7 =>
  br ((x7 : Int) == 0) (
  lt (IntKind.i64.wrap (n_3 + 1)) fun x8 =>
  lt (if (262145 : Int) < x8 then 262145 else x8) fun x9 =>
  lt (IntKind.i64.wrap (t9 + 1)) fun x10 =>
  nx1 t7 t8 x9 x10 w5) (
  ldI .i64 w5 (Addr.add a3 1) fun x11 =>
  br (decide ((x11 : Int) < 0)) (
  lt (IntKind.i64.wrap (n_3 + 0)) fun x12 =>
  lt (if (262145 : Int) < x12 then 262145 else x12) fun x13 =>
  lt (IntKind.i64.wrap (t9 + 1)) fun x14 =>
  nx1 t7 t8 x13 x14 w5) (
  ldI .i64 w5 (Addr.add a3 1) fun x15 =>
  br (decide ((x15 : Int) > 258)) (
  lt (IntKind.i64.wrap (n_3 + 0)) fun x16 =>
  lt (if (262145 : Int) < x16 then 262145 else x16) fun x17 =>
  lt (IntKind.i64.wrap (t9 + 1)) fun x18 =>
  nx1 t7 t8 x17 x18 w5) (
  lt (IntKind.i64.wrap (n_3 + x6)) fun x19 =>
  lt (if (262145 : Int) < x19 then 262145 else x19) fun x20 =>
  lt (IntKind.i64.wrap (t9 + 1)) fun x21 =>
  nx1 t7 t8 x20 x21 w5)))) (
  lz_Size.j2 n_3 Q w)

def lz_Size.l1 (t7 : Sl) (t8 : Int) (n_3 : Int) (t9 : Int) (Q : Value → World → Prop) (w : World) : Prop :=
  ∃ (I : Int → Int → World → Prop) (μ : Int → Int → World → Nat), I n_3 t9 w ∧ ∀ n_3 : Int, ∀ t9 : Int, ∀ w : World, I n_3 t9 w → lz_Size.b1 t7 t8 n_3 t9 Q (fun t7' t8' n_3' t9' w' => (t7' = t7 ∧ t8' = t8) ∧ I n_3' t9' w' ∧ μ n_3' t9' w' < μ n_3 t9 w) w

def lz_Size.j3 (n_3 : Int) (t7 : Sl) (t8 : Int) (t9 : Int) (Q : Value → World → Prop) (w : World) : Prop :=
  lz_Size.l1 t7 t8 n_3 t9 Q w

def lz_Size.j1 (l_0 : Sl) (n_3 : Int) (Q : Value → World → Prop) (w : World) : Prop :=
  lz_Size.j3 n_3 l_0 ((l_0.len : Nat) : Int) 0 Q w

def lz_Size (l_0 : Sl) (Q : Value → World → Prop) (w : World) : Prop :=
  lz_Size.j1 l_0 0 Q w

theorem lz_Size.ok (l_0 : Sl) (Q : Value → World → Prop) (w : World) (h : lz_Size l_0 Q w) : Calls Try.prog 70 ⟨[.slice l_0.a l_0.len l_0.cap]⟩ w (Ret Q) := by
  refine calls_of_wpc [.tmp 2] Try.func70 rfl rfl rfl rfl ?_
  refine wpc_pre2 hmix (fun ρ w => asL (ρ 0) fun l_0 => asI .i64 (ρ 3) fun n_3 => lz_Size.j1 l_0 n_3 Q w) (Eq.mp (by kernel_rfl) h) ?_
  intro ρ w h
  obtain ⟨l_0, e0, h⟩ := asL_el h
  obtain ⟨n_3, e3, h⟩ := asI_el h
  refine reroot e0 (reroot (upd_other e3 rfl) ?_)
  refine wpc_seq (fun ρ w => asI .i64 (ρ 3) fun n_3 => lz_Size.j2 n_3 Q w) ?_ ?_
  · skip
    refine wpc_seq (fun ρ w => asI .i64 (ρ 3) fun n_3 => asL (ρ 7) fun t7 => asI .i64 (ρ 8) fun t8 => asI .i64 (ρ 9) fun t9 => lz_Size.j3 n_3 t7 t8 t9 Q w) ?_ ?_
    · skip
      exact pt_sound hmix _ (Eq.mp (by kernel_rfl) h)
    · intro ρ w h
      obtain ⟨n_3, e3, h⟩ := asI_el h
      obtain ⟨t7, e7, h⟩ := asL_el h
      obtain ⟨t8, e8, h⟩ := asI_el h
      obtain ⟨t9, e9, h⟩ := asI_el h
      refine reroot e3 (reroot (upd_other e7 rfl) (reroot (upd_other (upd_other e8 rfl) rfl) (reroot (upd_other (upd_other (upd_other e9 rfl) rfl) rfl) ?_)))
      refine wpc_block ?_
      obtain ⟨I, μ, hI, hr⟩ := h
      refine wpc_loopS (α := Int × Int) (fun s ρ => ρ 3 = .int .i64 s.1 ∧ ρ 9 = .int .i64 s.2 ∧ ρ 7 = .slice t7.a t7.len t7.cap ∧ ρ 8 = .int .i64 t8) (fun s w => I s.1 s.2 w) (fun s w => μ s.1 s.2 w) (n_3, t9) ⟨rfl, rfl, rfl, rfl⟩ hI ?_
      rintro ⟨n_3, t9⟩ ρ w ⟨e3, e9, e7, e8⟩ hI
      have h := hr n_3 t9 w hI
      clear hr
      obtain ⟨nx1, hnx⟩ : ∃ nx : Sl → Int → Int → Int → World → Prop, nx = (fun t7' t8' n_3' t9' w' => (t7' = t7 ∧ t8' = t8) ∧ I n_3' t9' w' ∧ μ n_3' t9' w' < μ n_3 t9 w) := ⟨_, rfl⟩
      rw [← hnx] at h
      refine wpc_norm (M := fun ρ w => asL (ρ 7) fun t7 => asI .i64 (ρ 8) fun t8 => asI .i64 (ρ 3) fun n_3 => asI .i64 (ρ 9) fun t9 => nx1 t7 t8 n_3 t9 w) ?_ (fun ρ w h => ?_)
      · skip
        refine reroot e3 (reroot (upd_other e7 rfl) (reroot (upd_other (upd_other e8 rfl) rfl) (reroot (upd_other (upd_other (upd_other e9 rfl) rfl) rfl) ?_)))
        exact pt_sound hmix _ (Eq.mp (by kernel_rfl) h)
      · skip
        obtain ⟨t7', e7', h⟩ := asL_el h
        obtain ⟨t8', e8', h⟩ := asI_el h
        obtain ⟨n_3', e3', h⟩ := asI_el h
        obtain ⟨t9', e9', h⟩ := asI_el h
        rw [hnx] at h
        obtain ⟨hu, hI2, hμ⟩ := h
        obtain ⟨rfl, rfl⟩ := hu
        exact ⟨(n_3', t9'), ⟨e3', e9', e7', e8'⟩, hI2, hμ⟩
  · intro ρ w h
    obtain ⟨n_3, e3, h⟩ := asI_el h
    refine reroot e3 ?_
    exact pt_sound hmix _ (Eq.mp (by kernel_rfl) h)

/-! trove/lz.Expand -/
def lz_Expand.j3 (out_7 : Sl) (Q : Value → World → Prop) (w : World) : Prop :=
  Calls Try.prog 125 ⟨[.slice out_7.a out_7.len out_7.cap]⟩ w fun e1 w2 =>
  ∃ r3 : Sl, e1 = .returned (.slice r3.a r3.len r3.cap) ∧
  Q (.tuple ⟨[.slice r3.a r3.len r3.cap, .int .i64 0]⟩) w2

def lz_Expand.j6 (most_1 : Int) (out_7 : Sl) (t17 : Sl) (t18 : Int) (t19 : Int) (Q : Value → World → Prop) (nx1 : Int → Sl → Int → Sl → Int → World → Prop) (w : World) : Prop :=
  lt (IntKind.i64.wrap (t19 + 1)) fun x4 =>
  nx1 most_1 t17 t18 out_7 x4 w

def lz_Expand.b2 (most_1 : Int) (t_9 : Addr) (t17 : Sl) (t18 : Int) (t19 : Int) (t40 : Int) (out_7 : Sl) (t41 : Int) (Q : Value → World → Prop) (nx1 : Int → Sl → Int → Sl → Int → World → Prop) (nx2 : Int → Addr → Sl → Int → Int → Int → Sl → Int → World → Prop) (w : World) : Prop :=
  br (decide ((t41 : Int) < t40)) (
  ldI .i64 w (Addr.add t_9 2) fun x5 =>
  lt (IntKind.i64.wrap (((out_7.len : Nat) : Int) - x5)) fun x6 =>
  ixS out_7.a out_7.len x6 1 fun a7 =>
  ldI .u8 w a7 fun x8 =>
  lt (⟨World.heapSize w, 0, none⟩ : Addr) fun a9 =>
  lt (World.alloc w (.cells ⟨[.int .u8 x8]⟩ 5)) fun w10 =>
  rdO w10 (some a9) (1 * 1) fun c11 =>
  apK Try.prog 5 w10 out_7.a out_7.len out_7.cap 1 c11 fun s12 w13 =>
  lt (IntKind.i64.wrap (t41 + 1)) fun x14 =>
  nx2 most_1 t_9 t17 t18 t19 t40 s12 x14 w13) (
  lz_Expand.j6 most_1 out_7 t17 t18 t19 Q nx1 w)

def lz_Expand.l2 (most_1 : Int) (t_9 : Addr) (t17 : Sl) (t18 : Int) (t19 : Int) (t40 : Int) (out_7 : Sl) (t41 : Int) (Q : Value → World → Prop) (nx1 : Int → Sl → Int → Sl → Int → World → Prop) (w : World) : Prop :=
  ∃ (I : Sl → Int → World → Prop) (μ : Sl → Int → World → Nat), I out_7 t41 w ∧ ∀ out_7 : Sl, ∀ t41 : Int, ∀ w : World, I out_7 t41 w → lz_Expand.b2 most_1 t_9 t17 t18 t19 t40 out_7 t41 Q nx1 (fun most_1' t_9' t17' t18' t19' t40' out_7' t41' w' => (most_1' = most_1 ∧ t_9' = t_9 ∧ t17' = t17 ∧ t18' = t18 ∧ t19' = t19 ∧ t40' = t40) ∧ I out_7' t41' w' ∧ μ out_7' t41' w' < μ out_7 t41 w) w

def lz_Expand.j9 (most_1 : Int) (out_7 : Sl) (t_9 : Addr) (t17 : Sl) (t18 : Int) (t19 : Int) (t40 : Int) (t41 : Int) (Q : Value → World → Prop) (nx1 : Int → Sl → Int → Sl → Int → World → Prop) (w : World) : Prop :=
  lz_Expand.l2 most_1 t_9 t17 t18 t19 t40 out_7 t41 Q nx1 w

def lz_Expand.j8 (most_1 : Int) (out_7 : Sl) (t_9 : Addr) (t17 : Sl) (t18 : Int) (t19 : Int) (Q : Value → World → Prop) (nx1 : Int → Sl → Int → Sl → Int → World → Prop) (w : World) : Prop :=
  ldI .i64 w (Addr.add t_9 1) fun x15 =>
  lz_Expand.j9 most_1 out_7 t_9 t17 t18 t19 x15 0 Q nx1 w

def lz_Expand.j7 (most_1 : Int) (out_7 : Sl) (t_9 : Addr) (t17 : Sl) (t18 : Int) (t19 : Int) (Q : Value → World → Prop) (nx1 : Int → Sl → Int → Sl → Int → World → Prop) (w : World) : Prop :=
  ldI .i64 w (Addr.add t_9 1) fun x16 =>
  lt (if (1 : Int) > x16 then 1 else x16) fun x17 =>
  lt (IntKind.i64.wrap (most_1 - ((out_7.len : Nat) : Int))) fun x18 =>
  br (decide ((x17 : Int) > x18)) (
  Q (.tuple ⟨[.slice none 0 0, .int .i64 5]⟩) w) (
  ldI .i64 w (Addr.add t_9 1) fun x19 =>
  br ((x19 : Int) == 0) (
  ldI .u8 w (Addr.add t_9 0) fun x20 =>
  lt (⟨World.heapSize w, 0, none⟩ : Addr) fun a21 =>
  lt (World.alloc w (.cells ⟨[.int .u8 x20]⟩ 5)) fun w22 =>
  rdO w22 (some a21) (1 * 1) fun c23 =>
  apK Try.prog 5 w22 out_7.a out_7.len out_7.cap 1 c23 fun s24 w25 =>
  lz_Expand.j8 most_1 s24 t_9 t17 t18 t19 Q nx1 w25) (
  lz_Expand.j8 most_1 out_7 t_9 t17 t18 t19 Q nx1 w))

def lz_Expand.j5 (most_1 : Int) (out_7 : Sl) (t17 : Sl) (t18 : Int) (t19 : Int) (Q : Value → World → Prop) (nx1 : Int → Sl → Int → Sl → Int → World → Prop) (w : World) : Prop :=
  ixS t17.a t17.len t19 3 fun a26 =>
  ldA w a26 3 fun c27 =>
  lt (⟨World.heapSize w, 0, none⟩ : Addr) fun a28 =>
  lt (World.alloc w (.cells (zc Try.prog 78) 78)) fun w29 =>
  (c27).size = 3 ∧
  stA w29 a28 c27 fun w30 =>
  lz_Expand.j7 most_1 out_7 a28 t17 t18 t19 Q nx1 w30

def lz_Expand.b1 (most_1 : Int) (t17 : Sl) (t18 : Int) (out_7 : Sl) (t19 : Int) (Q : Value → World → Prop) (nx1 : Int → Sl → Int → Sl → Int → World → Prop) (w : World) : Prop :=
  br (decide ((t19 : Int) < t18)) (
  lz_Expand.j5 most_1 out_7 t17 t18 t19 Q nx1 w) (
  lz_Expand.j3 out_7 Q w)

def lz_Expand.l1 (most_1 : Int) (t17 : Sl) (t18 : Int) (out_7 : Sl) (t19 : Int) (Q : Value → World → Prop) (w : World) : Prop :=
  ∃ (I : Sl → Int → World → Prop) (μ : Sl → Int → World → Nat), I out_7 t19 w ∧ ∀ out_7 : Sl, ∀ t19 : Int, ∀ w : World, I out_7 t19 w → lz_Expand.b1 most_1 t17 t18 out_7 t19 Q (fun most_1' t17' t18' out_7' t19' w' => (most_1' = most_1 ∧ t17' = t17 ∧ t18' = t18) ∧ I out_7' t19' w' ∧ μ out_7' t19' w' < μ out_7 t19 w) w

def lz_Expand.j4 (most_1 : Int) (out_7 : Sl) (t17 : Sl) (t18 : Int) (t19 : Int) (Q : Value → World → Prop) (w : World) : Prop :=
  lz_Expand.l1 most_1 t17 t18 out_7 t19 Q w

def lz_Expand.j2 (l_0 : Sl) (most_1 : Int) (out_7 : Sl) (Q : Value → World → Prop) (w : World) : Prop :=
  lz_Expand.j4 most_1 out_7 l_0 ((l_0.len : Nat) : Int) 0 Q w

def lz_Expand.j1 (l_0 : Sl) (most_1 : Int) (Q : Value → World → Prop) (w : World) : Prop :=
  br (decide ((most_1 : Int) < 0)) (
  Q (.tuple ⟨[.slice none 0 0, .int .i64 5]⟩) w) (
  lz_Expand.j2 l_0 most_1 ⟨none, 0, 0⟩ Q w)

def lz_Expand (l_0 : Sl) (most_1 : Int) (Q : Value → World → Prop) (w : World) : Prop :=
  Calls Try.prog 68 ⟨[.slice l_0.a l_0.len l_0.cap]⟩ w fun e31 w32 =>
  ∃ r33 : Int, e31 = .returned (.int .i64 r33) ∧
  br ((r33 : Int) != 0) (
  Q (.tuple ⟨[.slice none 0 0, .int .i64 r33]⟩) w32) (
  lz_Expand.j1 l_0 most_1 Q w32)

theorem lz_Expand.ok (l_0 : Sl) (most_1 : Int) (Q : Value → World → Prop) (w : World) (h : lz_Expand l_0 most_1 Q w) : Calls Try.prog 66 ⟨[.slice l_0.a l_0.len l_0.cap, .int .i64 most_1]⟩ w (Ret Q) := by
  refine calls_of_wpc [.tmp 4, .tmp 5] Try.func66 rfl rfl rfl rfl ?_
  refine wpc_pre2 hmix (fun ρ w => asL (ρ 0) fun l_0 => asI .i64 (ρ 1) fun most_1 => lz_Expand.j1 l_0 most_1 Q w) (Eq.mp (by kernel_rfl) h) ?_
  intro ρ w h
  obtain ⟨l_0, e0, h⟩ := asL_el h
  obtain ⟨most_1, e1, h⟩ := asI_el h
  refine reroot e0 (reroot (upd_other e1 rfl) ?_)
  refine wpc_pre2 hmix (fun ρ w => asL (ρ 0) fun l_0 => asI .i64 (ρ 1) fun most_1 => asL (ρ 7) fun out_7 => lz_Expand.j2 l_0 most_1 out_7 Q w) (Eq.mp (by kernel_rfl) h) ?_
  intro ρ w h
  obtain ⟨l_0, e0, h⟩ := asL_el h
  obtain ⟨most_1, e1, h⟩ := asI_el h
  obtain ⟨out_7, e7, h⟩ := asL_el h
  refine reroot e0 (reroot (upd_other e1 rfl) (reroot (upd_other (upd_other e7 rfl) rfl) ?_))
  refine wpc_seq (fun ρ w => asL (ρ 7) fun out_7 => lz_Expand.j3 out_7 Q w) ?_ ?_
  · skip
    refine wpc_seq (fun ρ w => asI .i64 (ρ 1) fun most_1 => asL (ρ 7) fun out_7 => asL (ρ 17) fun t17 => asI .i64 (ρ 18) fun t18 => asI .i64 (ρ 19) fun t19 => lz_Expand.j4 most_1 out_7 t17 t18 t19 Q w) ?_ ?_
    · skip
      exact pt_sound hmix _ (Eq.mp (by kernel_rfl) h)
    · intro ρ w h
      obtain ⟨most_1, e1, h⟩ := asI_el h
      obtain ⟨out_7, e7, h⟩ := asL_el h
      obtain ⟨t17, e17, h⟩ := asL_el h
      obtain ⟨t18, e18, h⟩ := asI_el h
      obtain ⟨t19, e19, h⟩ := asI_el h
      refine reroot e1 (reroot (upd_other e7 rfl) (reroot (upd_other (upd_other e17 rfl) rfl) (reroot (upd_other (upd_other (upd_other e18 rfl) rfl) rfl) (reroot (upd_other (upd_other (upd_other (upd_other e19 rfl) rfl) rfl) rfl) ?_))))
      refine wpc_block ?_
      obtain ⟨I, μ, hI, hr⟩ := h
      refine wpc_loopS (α := Sl × Int) (fun s ρ => ρ 7 = .slice s.1.a s.1.len s.1.cap ∧ ρ 19 = .int .i64 s.2 ∧ ρ 1 = .int .i64 most_1 ∧ ρ 17 = .slice t17.a t17.len t17.cap ∧ ρ 18 = .int .i64 t18) (fun s w => I s.1 s.2 w) (fun s w => μ s.1 s.2 w) (out_7, t19) ⟨rfl, rfl, rfl, rfl, rfl⟩ hI ?_
      rintro ⟨out_7, t19⟩ ρ w ⟨e7, e19, e1, e17, e18⟩ hI
      have h := hr out_7 t19 w hI
      clear hr
      obtain ⟨nx1, hnx⟩ : ∃ nx : Int → Sl → Int → Sl → Int → World → Prop, nx = (fun most_1' t17' t18' out_7' t19' w' => (most_1' = most_1 ∧ t17' = t17 ∧ t18' = t18) ∧ I out_7' t19' w' ∧ μ out_7' t19' w' < μ out_7 t19 w) := ⟨_, rfl⟩
      rw [← hnx] at h
      refine wpc_norm (M := fun ρ w => asI .i64 (ρ 1) fun most_1 => asL (ρ 17) fun t17 => asI .i64 (ρ 18) fun t18 => asL (ρ 7) fun out_7 => asI .i64 (ρ 19) fun t19 => nx1 most_1 t17 t18 out_7 t19 w) ?_ (fun ρ w h => ?_)
      · skip
        refine reroot e1 (reroot (upd_other e7 rfl) (reroot (upd_other (upd_other e17 rfl) rfl) (reroot (upd_other (upd_other (upd_other e18 rfl) rfl) rfl) (reroot (upd_other (upd_other (upd_other (upd_other e19 rfl) rfl) rfl) rfl) ?_))))
        refine wpc_pre2 hmix (fun ρ w => asI .i64 (ρ 1) fun most_1 => asL (ρ 7) fun out_7 => asL (ρ 17) fun t17 => asI .i64 (ρ 18) fun t18 => asI .i64 (ρ 19) fun t19 => lz_Expand.j5 most_1 out_7 t17 t18 t19 Q nx1 w) (Eq.mp (by kernel_rfl) h) ?_
        intro ρ w h
        obtain ⟨most_1, e1, h⟩ := asI_el h
        obtain ⟨out_7, e7, h⟩ := asL_el h
        obtain ⟨t17, e17, h⟩ := asL_el h
        obtain ⟨t18, e18, h⟩ := asI_el h
        obtain ⟨t19, e19, h⟩ := asI_el h
        refine reroot e1 (reroot (upd_other e7 rfl) (reroot (upd_other (upd_other e17 rfl) rfl) (reroot (upd_other (upd_other (upd_other e18 rfl) rfl) rfl) (reroot (upd_other (upd_other (upd_other (upd_other e19 rfl) rfl) rfl) rfl) ?_))))
        refine wpc_seq (fun ρ w => asI .i64 (ρ 1) fun most_1 => asL (ρ 7) fun out_7 => asL (ρ 17) fun t17 => asI .i64 (ρ 18) fun t18 => asI .i64 (ρ 19) fun t19 => lz_Expand.j6 most_1 out_7 t17 t18 t19 Q nx1 w) ?_ ?_
        · skip
          refine wpc_block ?_
          refine wpc_seq (fun ρ w => asI .i64 (ρ 1) fun most_1 => asL (ρ 7) fun out_7 => asA (ρ 9) fun t_9 => asL (ρ 17) fun t17 => asI .i64 (ρ 18) fun t18 => asI .i64 (ρ 19) fun t19 => lz_Expand.j7 most_1 out_7 t_9 t17 t18 t19 Q nx1 w) ?_ ?_
          · skip
            exact pt_sound hmix _ (Eq.mp (by kernel_rfl) h)
          · intro ρ w h
            obtain ⟨most_1, e1, h⟩ := asI_el h
            obtain ⟨out_7, e7, h⟩ := asL_el h
            obtain ⟨t_9, e9, h⟩ := asA_el h
            obtain ⟨t17, e17, h⟩ := asL_el h
            obtain ⟨t18, e18, h⟩ := asI_el h
            obtain ⟨t19, e19, h⟩ := asI_el h
            refine reroot e1 (reroot (upd_other e7 rfl) (reroot (upd_other (upd_other e9 rfl) rfl) (reroot (upd_other (upd_other (upd_other e17 rfl) rfl) rfl) (reroot (upd_other (upd_other (upd_other (upd_other e18 rfl) rfl) rfl) rfl) (reroot (upd_other (upd_other (upd_other (upd_other (upd_other e19 rfl) rfl) rfl) rfl) rfl) ?_)))))
            refine wpc_pre2 hmix (fun ρ w => asI .i64 (ρ 1) fun most_1 => asL (ρ 7) fun out_7 => asA (ρ 9) fun t_9 => asL (ρ 17) fun t17 => asI .i64 (ρ 18) fun t18 => asI .i64 (ρ 19) fun t19 => lz_Expand.j8 most_1 out_7 t_9 t17 t18 t19 Q nx1 w) (Eq.mp (by kernel_rfl) h) ?_
            intro ρ w h
            obtain ⟨most_1, e1, h⟩ := asI_el h
            obtain ⟨out_7, e7, h⟩ := asL_el h
            obtain ⟨t_9, e9, h⟩ := asA_el h
            obtain ⟨t17, e17, h⟩ := asL_el h
            obtain ⟨t18, e18, h⟩ := asI_el h
            obtain ⟨t19, e19, h⟩ := asI_el h
            refine reroot e1 (reroot (upd_other e7 rfl) (reroot (upd_other (upd_other e9 rfl) rfl) (reroot (upd_other (upd_other (upd_other e17 rfl) rfl) rfl) (reroot (upd_other (upd_other (upd_other (upd_other e18 rfl) rfl) rfl) rfl) (reroot (upd_other (upd_other (upd_other (upd_other (upd_other e19 rfl) rfl) rfl) rfl) rfl) ?_)))))
            refine wpc_seq (fun ρ w => asI .i64 (ρ 1) fun most_1 => asL (ρ 7) fun out_7 => asA (ρ 9) fun t_9 => asL (ρ 17) fun t17 => asI .i64 (ρ 18) fun t18 => asI .i64 (ρ 19) fun t19 => asI .i64 (ρ 40) fun t40 => asI .i64 (ρ 41) fun t41 => lz_Expand.j9 most_1 out_7 t_9 t17 t18 t19 t40 t41 Q nx1 w) ?_ ?_
            · skip
              exact pt_sound hmix _ (Eq.mp (by kernel_rfl) h)
            · intro ρ w h
              obtain ⟨most_1, e1, h⟩ := asI_el h
              obtain ⟨out_7, e7, h⟩ := asL_el h
              obtain ⟨t_9, e9, h⟩ := asA_el h
              obtain ⟨t17, e17, h⟩ := asL_el h
              obtain ⟨t18, e18, h⟩ := asI_el h
              obtain ⟨t19, e19, h⟩ := asI_el h
              obtain ⟨t40, e40, h⟩ := asI_el h
              obtain ⟨t41, e41, h⟩ := asI_el h
              refine reroot e1 (reroot (upd_other e7 rfl) (reroot (upd_other (upd_other e9 rfl) rfl) (reroot (upd_other (upd_other (upd_other e17 rfl) rfl) rfl) (reroot (upd_other (upd_other (upd_other (upd_other e18 rfl) rfl) rfl) rfl) (reroot (upd_other (upd_other (upd_other (upd_other (upd_other e19 rfl) rfl) rfl) rfl) rfl) (reroot (upd_other (upd_other (upd_other (upd_other (upd_other (upd_other e40 rfl) rfl) rfl) rfl) rfl) rfl) (reroot (upd_other (upd_other (upd_other (upd_other (upd_other (upd_other (upd_other e41 rfl) rfl) rfl) rfl) rfl) rfl) rfl) ?_)))))))
              refine wpc_block ?_
              obtain ⟨I, μ, hI, hr⟩ := h
              refine wpc_loopS (α := Sl × Int) (fun s ρ => ρ 7 = .slice s.1.a s.1.len s.1.cap ∧ ρ 41 = .int .i64 s.2 ∧ ρ 1 = .int .i64 most_1 ∧ ρ 9 = .pointer (some t_9) ∧ ρ 17 = .slice t17.a t17.len t17.cap ∧ ρ 18 = .int .i64 t18 ∧ ρ 19 = .int .i64 t19 ∧ ρ 40 = .int .i64 t40) (fun s w => I s.1 s.2 w) (fun s w => μ s.1 s.2 w) (out_7, t41) ⟨rfl, rfl, rfl, rfl, rfl, rfl, rfl, rfl⟩ hI ?_
              rintro ⟨out_7, t41⟩ ρ w ⟨e7, e41, e1, e9, e17, e18, e19, e40⟩ hI
              have h := hr out_7 t41 w hI
              clear hr
              obtain ⟨nx2, hnx⟩ : ∃ nx : Int → Addr → Sl → Int → Int → Int → Sl → Int → World → Prop, nx = (fun most_1' t_9' t17' t18' t19' t40' out_7' t41' w' => (most_1' = most_1 ∧ t_9' = t_9 ∧ t17' = t17 ∧ t18' = t18 ∧ t19' = t19 ∧ t40' = t40) ∧ I out_7' t41' w' ∧ μ out_7' t41' w' < μ out_7 t41 w) := ⟨_, rfl⟩
              rw [← hnx] at h
              refine wpc_norm (M := fun ρ w => asI .i64 (ρ 1) fun most_1 => asA (ρ 9) fun t_9 => asL (ρ 17) fun t17 => asI .i64 (ρ 18) fun t18 => asI .i64 (ρ 19) fun t19 => asI .i64 (ρ 40) fun t40 => asL (ρ 7) fun out_7 => asI .i64 (ρ 41) fun t41 => nx2 most_1 t_9 t17 t18 t19 t40 out_7 t41 w) ?_ (fun ρ w h => ?_)
              · skip
                refine reroot e1 (reroot (upd_other e7 rfl) (reroot (upd_other (upd_other e9 rfl) rfl) (reroot (upd_other (upd_other (upd_other e17 rfl) rfl) rfl) (reroot (upd_other (upd_other (upd_other (upd_other e18 rfl) rfl) rfl) rfl) (reroot (upd_other (upd_other (upd_other (upd_other (upd_other e19 rfl) rfl) rfl) rfl) rfl) (reroot (upd_other (upd_other (upd_other (upd_other (upd_other (upd_other e40 rfl) rfl) rfl) rfl) rfl) rfl) (reroot (upd_other (upd_other (upd_other (upd_other (upd_other (upd_other (upd_other e41 rfl) rfl) rfl) rfl) rfl) rfl) rfl) ?_)))))))
                exact pt_sound hmix _ (Eq.mp (by kernel_rfl) h)
              · skip
                obtain ⟨most_1', e1', h⟩ := asI_el h
                obtain ⟨t_9', e9', h⟩ := asA_el h
                obtain ⟨t17', e17', h⟩ := asL_el h
                obtain ⟨t18', e18', h⟩ := asI_el h
                obtain ⟨t19', e19', h⟩ := asI_el h
                obtain ⟨t40', e40', h⟩ := asI_el h
                obtain ⟨out_7', e7', h⟩ := asL_el h
                obtain ⟨t41', e41', h⟩ := asI_el h
                rw [hnx] at h
                obtain ⟨hu, hI2, hμ⟩ := h
                obtain ⟨rfl, rfl, rfl, rfl, rfl, rfl⟩ := hu
                exact ⟨(out_7', t41'), ⟨e7', e41', e1', e9', e17', e18', e19', e40'⟩, hI2, hμ⟩
        · intro ρ w h
          obtain ⟨most_1, e1, h⟩ := asI_el h
          obtain ⟨out_7, e7, h⟩ := asL_el h
          obtain ⟨t17, e17, h⟩ := asL_el h
          obtain ⟨t18, e18, h⟩ := asI_el h
          obtain ⟨t19, e19, h⟩ := asI_el h
          refine reroot e1 (reroot (upd_other e7 rfl) (reroot (upd_other (upd_other e17 rfl) rfl) (reroot (upd_other (upd_other (upd_other e18 rfl) rfl) rfl) (reroot (upd_other (upd_other (upd_other (upd_other e19 rfl) rfl) rfl) rfl) ?_))))
          exact pt_sound hmix _ (Eq.mp (by kernel_rfl) h)
      · skip
        obtain ⟨most_1', e1', h⟩ := asI_el h
        obtain ⟨t17', e17', h⟩ := asL_el h
        obtain ⟨t18', e18', h⟩ := asI_el h
        obtain ⟨out_7', e7', h⟩ := asL_el h
        obtain ⟨t19', e19', h⟩ := asI_el h
        rw [hnx] at h
        obtain ⟨hu, hI2, hμ⟩ := h
        obtain ⟨rfl, rfl, rfl⟩ := hu
        exact ⟨(out_7', t19'), ⟨e7', e19', e1', e17', e18'⟩, hI2, hμ⟩
  · intro ρ w h
    obtain ⟨out_7, e7, h⟩ := asL_el h
    refine reroot e7 ?_
    exact pt_sound hmix _ (Eq.mp (by kernel_rfl) h)

/-! (*trove/lz.finder).key -/
def lz_finder_key (f_0 : (Option Addr)) (at_1 : Int) (Q : Value → World → Prop) (w : World) : Prop :=
  lt (⟨World.heapSize w, 0, none⟩ : Addr) fun a1 =>
  lt (World.alloc w (.cells (zc Try.prog 194) 194)) fun w2 =>
  nz f_0 fun a3 =>
  ldL w2 (Addr.add a3 0) fun x4 =>
  bd at_1 x4.len fun n5 =>
  lt (⟨cutA x4.a x4.cap n5 1, x4.len - n5, x4.cap - n5⟩ : Sl) fun s6 =>
  3 ≤ s6.len ∧
  nz s6.a fun a7 =>
  ldA w2 a7 3 fun c8 =>
  (c8).size = 3 ∧
  stA w2 a1 c8 fun w9 =>
  ldA w9 a1 3 fun c10 =>
  Q (.agg c10) w9

theorem lz_finder_key.ok (f_0 : (Option Addr)) (at_1 : Int) (Q : Value → World → Prop) (w : World) (h : lz_finder_key f_0 at_1 Q w) : Calls Try.prog 156 ⟨[.pointer f_0, .int .i64 at_1]⟩ w (Ret Q) := by
  refine calls_of_wpc [.cell 4 194] Try.func156 rfl rfl rfl rfl ?_
  exact pt_sound hmix _ (Eq.mp (by kernel_rfl) h)

/-! (*trove/lz.finder).add -/
def lz_finder_add.j2 (f_0 : (Option Addr)) (at_1 : Int) (Q : Value → World → Prop) (w : World) : Prop :=
  lt (World.drew w) fun w1 =>
  nz f_0 fun a2 =>
  (ldM w1 (Addr.add a2 1) fun x3 =>
  Calls Try.prog 156 ⟨[.pointer f_0, .int .i64 at_1]⟩ w1 fun e4 w5 =>
  ∃ r6 : (Array Value), e4 = .returned (.agg r6) ∧
  ∃ w7 : World, muR Try.prog 161 (.map x3) (.agg r6) (.int .i64 at_1) w5 w7 ∧
  Q (.tuple ⟨[]⟩) w7) ∧ (
  Calls Try.prog 156 ⟨[.pointer f_0, .int .i64 at_1]⟩ w1 fun e8 w9 =>
  ∃ r10 : (Array Value), e8 = .returned (.agg r10) ∧
  ldM w9 (Addr.add a2 1) fun x11 =>
  ∃ w12 : World, muR Try.prog 161 (.map x11) (.agg r10) (.int .i64 at_1) w9 w12 ∧
  Q (.tuple ⟨[]⟩) w12)

def lz_finder_add.j3 (f_0 : (Option Addr)) (at_1 : Int) (i_4 : Int) (is_5 : Bool) (Q : Value → World → Prop) (w : World) : Prop :=
  br is_5 (
  nz f_0 fun a13 =>
  ldL w (Addr.add a13 2) fun x14 =>
  ixS x14.a x14.len at_1 1 fun a15 =>
  st w a15 (.int .i64 i_4) fun w16 =>
  lz_finder_add.j2 f_0 at_1 Q w16) (
  lz_finder_add.j2 f_0 at_1 Q w)

def lz_finder_add.j1 (f_0 : (Option Addr)) (at_1 : Int) (Q : Value → World → Prop) (w : World) : Prop :=
  lt (World.drew w) fun w17 =>
  nz f_0 fun a18 =>
  (ldM w17 (Addr.add a18 1) fun x19 =>
  Calls Try.prog 156 ⟨[.pointer f_0, .int .i64 at_1]⟩ w17 fun e20 w21 =>
  ∃ r22 : (Array Value), e20 = .returned (.agg r22) ∧
  ∃ r23 : Int, ∃ r24 : Bool, lkR Try.prog 161 (.map x19) (.agg r22) true w21 (.tuple ⟨[.int .i64 r23, .bool r24]⟩) ∧
  lz_finder_add.j3 f_0 at_1 r23 r24 Q w21) ∧ (
  Calls Try.prog 156 ⟨[.pointer f_0, .int .i64 at_1]⟩ w17 fun e25 w26 =>
  ∃ r27 : (Array Value), e25 = .returned (.agg r27) ∧
  ldM w26 (Addr.add a18 1) fun x28 =>
  ∃ r29 : Int, ∃ r30 : Bool, lkR Try.prog 161 (.map x28) (.agg r27) true w26 (.tuple ⟨[.int .i64 r29, .bool r30]⟩) ∧
  lz_finder_add.j3 f_0 at_1 r29 r30 Q w26)

def lz_finder_add (f_0 : (Option Addr)) (at_1 : Int) (Q : Value → World → Prop) (w : World) : Prop :=
  nz f_0 fun a31 =>
  ldL w (Addr.add a31 2) fun x32 =>
  lt (⟨World.heapSize w, 0, none⟩ : Addr) fun a33 =>
  lt (World.alloc w (.cells ⟨[.int .i64 (-1)]⟩ 3)) fun w34 =>
  rdO w34 (some a33) (1 * 1) fun c35 =>
  apK Try.prog 3 w34 x32.a x32.len x32.cap 1 c35 fun s36 w37 =>
  nz f_0 fun a38 =>
  st w37 (Addr.add a38 2) (.slice s36.a s36.len s36.cap) fun w39 =>
  lt (IntKind.i64.wrap (at_1 + 3)) fun x40 =>
  nz f_0 fun a41 =>
  ldL w39 (Addr.add a41 0) fun x42 =>
  br (decide ((x40 : Int) > ((x42.len : Nat) : Int))) (
  Q (.tuple ⟨[]⟩) w39) (
  lz_finder_add.j1 f_0 at_1 Q w39)

theorem lz_finder_add.ok (f_0 : (Option Addr)) (at_1 : Int) (Q : Value → World → Prop) (w : World) (h : lz_finder_add f_0 at_1 Q w) : Calls Try.prog 130 ⟨[.pointer f_0, .int .i64 at_1]⟩ w (Ret Q) := by
  refine calls_of_wpc [] Try.func130 rfl rfl rfl rfl ?_
  refine wpc_pre2 hmix (fun ρ w => asP (ρ 0) fun f_0 => asI .i64 (ρ 1) fun at_1 => lz_finder_add.j1 f_0 at_1 Q w) (Eq.mp (by kernel_rfl) h) ?_
  intro ρ w h
  obtain ⟨f_0, e0, h⟩ := asP_el h
  obtain ⟨at_1, e1, h⟩ := asI_el h
  refine reroot e0 (reroot (upd_other e1 rfl) ?_)
  refine wpc_seq (fun ρ w => asP (ρ 0) fun f_0 => asI .i64 (ρ 1) fun at_1 => lz_finder_add.j2 f_0 at_1 Q w) ?_ ?_
  · skip
    refine wpc_seq (fun ρ w => asP (ρ 0) fun f_0 => asI .i64 (ρ 1) fun at_1 => asI .i64 (ρ 4) fun i_4 => asB (ρ 5) fun is_5 => lz_finder_add.j3 f_0 at_1 i_4 is_5 Q w) ?_ ?_
    · skip
      exact pt_sound hmix _ (Eq.mp (by kernel_rfl) h)
    · intro ρ w h
      obtain ⟨f_0, e0, h⟩ := asP_el h
      obtain ⟨at_1, e1, h⟩ := asI_el h
      obtain ⟨i_4, e4, h⟩ := asI_el h
      obtain ⟨is_5, e5, h⟩ := asB_el h
      refine reroot e0 (reroot (upd_other e1 rfl) (reroot (upd_other (upd_other e4 rfl) rfl) (reroot (upd_other (upd_other (upd_other e5 rfl) rfl) rfl) ?_)))
      exact pt_sound hmix _ (Eq.mp (by kernel_rfl) h)
  · intro ρ w h
    obtain ⟨f_0, e0, h⟩ := asP_el h
    obtain ⟨at_1, e1, h⟩ := asI_el h
    refine reroot e0 (reroot (upd_other e1 rfl) ?_)
    exact pt_sound hmix _ (Eq.mp (by kernel_rfl) h)

/-! (*trove/lz.finder).same -/
def lz_finder_same.j2 (n_7 : Int) (Q : Value → World → Prop) (w : World) : Prop :=
  Q (.int .i64 n_7) w

def lz_finder_same.b1 (f_0 : (Option Addr)) (i_1 : Int) (k_2 : Int) (n_7 : Int) (Q : Value → World → Prop) (nx1 : (Option Addr) → Int → Int → Int → World → Prop) (w : World) : Prop :=
  lt (World.drew w) fun w1 =>
  br (decide ((n_7 : Int) < 258)) (
  lt (IntKind.i64.wrap (k_2 + n_7)) fun x2 =>
  nz f_0 fun a3 =>
  ldL w1 (Addr.add a3 0) fun x4 =>
  br (decide ((x2 : Int) < ((x4.len : Nat) : Int))) (
  nz f_0 fun a5 =>
  ldL w1 (Addr.add a5 0) fun x6 =>
  lt (IntKind.i64.wrap (i_1 + n_7)) fun x7 =>
  ixS x6.a x6.len x7 1 fun a8 =>
  ldI .u8 w1 a8 fun x9 =>
  nz f_0 fun a10 =>
  ldL w1 (Addr.add a10 0) fun x11 =>
  lt (IntKind.i64.wrap (k_2 + n_7)) fun x12 =>
  ixS x11.a x11.len x12 1 fun a13 =>
  ldI .u8 w1 a13 fun x14 =>
  br ((x9 : Int) == x14) (
  lt (IntKind.i64.wrap (n_7 + 1)) fun x15 =>
  nx1 f_0 i_1 k_2 x15 w1) (
  lz_finder_same.j2 n_7 Q w1)) (
  lz_finder_same.j2 n_7 Q w1)) (
  lz_finder_same.j2 n_7 Q w1)

def lz_finder_same.l1 (f_0 : (Option Addr)) (i_1 : Int) (k_2 : Int) (n_7 : Int) (Q : Value → World → Prop) (w : World) : Prop :=
  ∃ (I : Int → World → Prop) (μ : Int → World → Nat), I n_7 w ∧ ∀ n_7 : Int, ∀ w : World, I n_7 w → lz_finder_same.b1 f_0 i_1 k_2 n_7 Q (fun f_0' i_1' k_2' n_7' w' => (f_0' = f_0 ∧ i_1' = i_1 ∧ k_2' = k_2) ∧ I n_7' w' ∧ μ n_7' w' < μ n_7 w) w

def lz_finder_same.j1 (f_0 : (Option Addr)) (i_1 : Int) (k_2 : Int) (n_7 : Int) (Q : Value → World → Prop) (w : World) : Prop :=
  lz_finder_same.l1 f_0 i_1 k_2 n_7 Q w

def lz_finder_same (f_0 : (Option Addr)) (i_1 : Int) (k_2 : Int) (Q : Value → World → Prop) (w : World) : Prop :=
  lz_finder_same.j1 f_0 i_1 k_2 0 Q w

theorem lz_finder_same.ok (f_0 : (Option Addr)) (i_1 : Int) (k_2 : Int) (Q : Value → World → Prop) (w : World) (h : lz_finder_same f_0 i_1 k_2 Q w) : Calls Try.prog 157 ⟨[.pointer f_0, .int .i64 i_1, .int .i64 k_2]⟩ w (Ret Q) := by
  refine calls_of_wpc [.tmp 6] Try.func157 rfl rfl rfl rfl ?_
  refine wpc_pre2 hmix (fun ρ w => asP (ρ 0) fun f_0 => asI .i64 (ρ 1) fun i_1 => asI .i64 (ρ 2) fun k_2 => asI .i64 (ρ 7) fun n_7 => lz_finder_same.j1 f_0 i_1 k_2 n_7 Q w) (Eq.mp (by kernel_rfl) h) ?_
  intro ρ w h
  obtain ⟨f_0, e0, h⟩ := asP_el h
  obtain ⟨i_1, e1, h⟩ := asI_el h
  obtain ⟨k_2, e2, h⟩ := asI_el h
  obtain ⟨n_7, e7, h⟩ := asI_el h
  refine reroot e0 (reroot (upd_other e1 rfl) (reroot (upd_other (upd_other e2 rfl) rfl) (reroot (upd_other (upd_other (upd_other e7 rfl) rfl) rfl) ?_)))
  refine wpc_seq (fun ρ w => asI .i64 (ρ 7) fun n_7 => lz_finder_same.j2 n_7 Q w) ?_ ?_
  · skip
    refine wpc_block ?_
    obtain ⟨I, μ, hI, hr⟩ := h
    refine wpc_loopS (α := Int) (fun s ρ => ρ 7 = .int .i64 s ∧ ρ 0 = .pointer f_0 ∧ ρ 1 = .int .i64 i_1 ∧ ρ 2 = .int .i64 k_2) (fun s w => I s w) (fun s w => μ s w) n_7 ⟨rfl, rfl, rfl, rfl⟩ hI ?_
    rintro n_7 ρ w ⟨e7, e0, e1, e2⟩ hI
    have h := hr n_7 w hI
    clear hr
    obtain ⟨nx1, hnx⟩ : ∃ nx : (Option Addr) → Int → Int → Int → World → Prop, nx = (fun f_0' i_1' k_2' n_7' w' => (f_0' = f_0 ∧ i_1' = i_1 ∧ k_2' = k_2) ∧ I n_7' w' ∧ μ n_7' w' < μ n_7 w) := ⟨_, rfl⟩
    rw [← hnx] at h
    refine wpc_norm (M := fun ρ w => asP (ρ 0) fun f_0 => asI .i64 (ρ 1) fun i_1 => asI .i64 (ρ 2) fun k_2 => asI .i64 (ρ 7) fun n_7 => nx1 f_0 i_1 k_2 n_7 w) ?_ (fun ρ w h => ?_)
    · skip
      refine reroot e0 (reroot (upd_other e1 rfl) (reroot (upd_other (upd_other e2 rfl) rfl) (reroot (upd_other (upd_other (upd_other e7 rfl) rfl) rfl) ?_)))
      exact pt_sound hmix _ (Eq.mp (by kernel_rfl) h)
    · skip
      obtain ⟨f_0', e0', h⟩ := asP_el h
      obtain ⟨i_1', e1', h⟩ := asI_el h
      obtain ⟨k_2', e2', h⟩ := asI_el h
      obtain ⟨n_7', e7', h⟩ := asI_el h
      rw [hnx] at h
      obtain ⟨hu, hI2, hμ⟩ := h
      obtain ⟨rfl, rfl, rfl⟩ := hu
      exact ⟨n_7', ⟨e7', e0', e1', e2'⟩, hI2, hμ⟩
  · intro ρ w h
    obtain ⟨n_7, e7, h⟩ := asI_el h
    refine reroot e7 ?_
    exact pt_sound hmix _ (Eq.mp (by kernel_rfl) h)

/-! (*trove/lz.finder).best -/
def lz_finder_best.j3 (t6 : Int) (t7 : Int) (Q : Value → World → Prop) (w : World) : Prop :=
  Q (.tuple ⟨[.int .i64 t6, .int .i64 t7]⟩) w

def lz_finder_best.j5 (d_0 : (Option Addr)) (i_1 : Int) (t2 : Int) (t6 : Int) (t7 : Int) (t8 : Int) (t9 : Bool) (Q : Value → World → Prop) (nx1 : (Option Addr) → Int → Bool → Int → Int → Int → Int → World → Prop) (w : World) : Prop :=
  lt (IntKind.i64.wrap (t2 - 1)) fun x1 =>
  nx1 d_0 i_1 t9 x1 t6 t7 t8 w

def lz_finder_best.j6 (d_0 : (Option Addr)) (i_1 : Int) (t2 : Int) (t6 : Int) (t7 : Int) (t8 : Int) (t9 : Bool) (Q : Value → World → Prop) (nx1 : (Option Addr) → Int → Bool → Int → Int → Int → Int → World → Prop) (w : World) : Prop :=
  nz d_0 fun a2 =>
  ldL w (Addr.add a2 2) fun x3 =>
  ixS x3.a x3.len t8 1 fun a4 =>
  ldI .i64 w a4 fun x5 =>
  br (decide ((x5 : Int) < 0)) (
  lz_finder_best.j3 t6 t7 Q w) (
  br ((t6 : Int) == 258) (
  lz_finder_best.j3 t6 t7 Q w) (
  lz_finder_best.j5 d_0 i_1 t2 t6 t7 x5 t9 Q nx1 w))

def lz_finder_best.j4 (d_0 : (Option Addr)) (i_1 : Int) (t2 : Int) (t6 : Int) (t7 : Int) (t8 : Int) (t9 : Bool) (Q : Value → World → Prop) (nx1 : (Option Addr) → Int → Bool → Int → Int → Int → Int → World → Prop) (w : World) : Prop :=
  Calls Try.prog 157 ⟨[.pointer d_0, .int .i64 t8, .int .i64 i_1]⟩ w fun e6 w7 =>
  ∃ r8 : Int, e6 = .returned (.int .i64 r8) ∧
  br (decide ((r8 : Int) > t6)) (
  lt (IntKind.i64.wrap (i_1 - t8)) fun x9 =>
  lz_finder_best.j6 d_0 i_1 t2 r8 x9 t8 t9 Q nx1 w7) (
  lz_finder_best.j6 d_0 i_1 t2 t6 t7 t8 t9 Q nx1 w7)

def lz_finder_best.b1 (d_0 : (Option Addr)) (i_1 : Int) (t9 : Bool) (t2 : Int) (t6 : Int) (t7 : Int) (t8 : Int) (Q : Value → World → Prop) (nx1 : (Option Addr) → Int → Bool → Int → Int → Int → Int → World → Prop) (w : World) : Prop :=
  br t9 (
  br (decide ((t2 : Int) > 0)) (
  lt (IntKind.i64.wrap (i_1 - t8)) fun x10 =>
  br (decide ((x10 : Int) ≤ 32768)) (
  lz_finder_best.j4 d_0 i_1 t2 t6 t7 t8 t9 Q nx1 w) (
  lz_finder_best.j3 t6 t7 Q w)) (
  lz_finder_best.j3 t6 t7 Q w)) (
  lz_finder_best.j3 t6 t7 Q w)

def lz_finder_best.l1 (d_0 : (Option Addr)) (i_1 : Int) (t9 : Bool) (t2 : Int) (t6 : Int) (t7 : Int) (t8 : Int) (Q : Value → World → Prop) (w : World) : Prop :=
  ∃ (I : Int → Int → Int → Int → World → Prop) (μ : Int → Int → Int → Int → World → Nat), I t2 t6 t7 t8 w ∧ ∀ t2 : Int, ∀ t6 : Int, ∀ t7 : Int, ∀ t8 : Int, ∀ w : World, I t2 t6 t7 t8 w → lz_finder_best.b1 d_0 i_1 t9 t2 t6 t7 t8 Q (fun d_0' i_1' t9' t2' t6' t7' t8' w' => (d_0' = d_0 ∧ i_1' = i_1 ∧ t9' = t9) ∧ I t2' t6' t7' t8' w' ∧ μ t2' t6' t7' t8' w' < μ t2 t6 t7 t8 w) w

def lz_finder_best.j2 (d_0 : (Option Addr)) (i_1 : Int) (t2 : Int) (t6 : Int) (t7 : Int) (t8 : Int) (t9 : Bool) (Q : Value → World → Prop) (w : World) : Prop :=
  lz_finder_best.l1 d_0 i_1 t9 t2 t6 t7 t8 Q w

def lz_finder_best.j1 (d_0 : (Option Addr)) (i_1 : Int) (t2 : Int) (t6 : Int) (t7 : Int) (Q : Value → World → Prop) (w : World) : Prop :=
  lt (IntKind.i64.wrap (i_1 + 3)) fun x11 =>
  nz d_0 fun a12 =>
  ldL w (Addr.add a12 0) fun x13 =>
  br (decide ((x11 : Int) > ((x13.len : Nat) : Int))) (
  Q (.tuple ⟨[.int .i64 0, .int .i64 0]⟩) w) (
  lt (World.drew w) fun w14 =>
  nz d_0 fun a15 =>
  (ldM w14 (Addr.add a15 1) fun x16 =>
  Calls Try.prog 156 ⟨[.pointer d_0, .int .i64 i_1]⟩ w14 fun e17 w18 =>
  ∃ r19 : (Array Value), e17 = .returned (.agg r19) ∧
  ∃ r20 : Int, ∃ r21 : Bool, lkR Try.prog 161 (.map x16) (.agg r19) true w18 (.tuple ⟨[.int .i64 r20, .bool r21]⟩) ∧
  lz_finder_best.j2 d_0 i_1 t2 t6 t7 r20 r21 Q w18) ∧ (
  Calls Try.prog 156 ⟨[.pointer d_0, .int .i64 i_1]⟩ w14 fun e22 w23 =>
  ∃ r24 : (Array Value), e22 = .returned (.agg r24) ∧
  ldM w23 (Addr.add a15 1) fun x25 =>
  ∃ r26 : Int, ∃ r27 : Bool, lkR Try.prog 161 (.map x25) (.agg r24) true w23 (.tuple ⟨[.int .i64 r26, .bool r27]⟩) ∧
  lz_finder_best.j2 d_0 i_1 t2 t6 t7 r26 r27 Q w23))

def lz_finder_best (d_0 : (Option Addr)) (i_1 : Int) (t2 : Int) (Q : Value → World → Prop) (w : World) : Prop :=
  lz_finder_best.j1 d_0 i_1 t2 0 0 Q w

theorem lz_finder_best.ok (d_0 : (Option Addr)) (i_1 : Int) (t2 : Int) (Q : Value → World → Prop) (w : World) (h : lz_finder_best d_0 i_1 t2 Q w) : Calls Try.prog 129 ⟨[.pointer d_0, .int .i64 i_1, .int .i64 t2]⟩ w (Ret Q) := by
  refine calls_of_wpc [.tmp 6, .tmp 7] Try.func129 rfl rfl rfl rfl ?_
  refine wpc_seq (fun ρ w => asP (ρ 0) fun d_0 => asI .i64 (ρ 1) fun i_1 => asI .i64 (ρ 2) fun t2 => asI .i64 (ρ 6) fun t6 => asI .i64 (ρ 7) fun t7 => lz_finder_best.j1 d_0 i_1 t2 t6 t7 Q w) ?_ ?_
  · skip
    exact pt_sound hmix _ (Eq.mp (by kernel_rfl) h)
  · intro ρ w h
    obtain ⟨d_0, e0, h⟩ := asP_el h
    obtain ⟨i_1, e1, h⟩ := asI_el h
    obtain ⟨t2, e2, h⟩ := asI_el h
    obtain ⟨t6, e6, h⟩ := asI_el h
    obtain ⟨t7, e7, h⟩ := asI_el h
    refine reroot e0 (reroot (upd_other e1 rfl) (reroot (upd_other (upd_other e2 rfl) rfl) (reroot (upd_other (upd_other (upd_other e6 rfl) rfl) rfl) (reroot (upd_other (upd_other (upd_other (upd_other e7 rfl) rfl) rfl) rfl) ?_))))
    refine wpc_pre2 hmix (fun ρ w => asP (ρ 0) fun d_0 => asI .i64 (ρ 1) fun i_1 => asI .i64 (ρ 2) fun t2 => asI .i64 (ρ 6) fun t6 => asI .i64 (ρ 7) fun t7 => asI .i64 (ρ 8) fun t8 => asB (ρ 9) fun t9 => lz_finder_best.j2 d_0 i_1 t2 t6 t7 t8 t9 Q w) (Eq.mp (by kernel_rfl) h) ?_
    intro ρ w h
    obtain ⟨d_0, e0, h⟩ := asP_el h
    obtain ⟨i_1, e1, h⟩ := asI_el h
    obtain ⟨t2, e2, h⟩ := asI_el h
    obtain ⟨t6, e6, h⟩ := asI_el h
    obtain ⟨t7, e7, h⟩ := asI_el h
    obtain ⟨t8, e8, h⟩ := asI_el h
    obtain ⟨t9, e9, h⟩ := asB_el h
    refine reroot e0 (reroot (upd_other e1 rfl) (reroot (upd_other (upd_other e2 rfl) rfl) (reroot (upd_other (upd_other (upd_other e6 rfl) rfl) rfl) (reroot (upd_other (upd_other (upd_other (upd_other e7 rfl) rfl) rfl) rfl) (reroot (upd_other (upd_other (upd_other (upd_other (upd_other e8 rfl) rfl) rfl) rfl) rfl) (reroot (upd_other (upd_other (upd_other (upd_other (upd_other (upd_other e9 rfl) rfl) rfl) rfl) rfl) rfl) ?_))))))
    refine wpc_seq (fun ρ w => asI .i64 (ρ 6) fun t6 => asI .i64 (ρ 7) fun t7 => lz_finder_best.j3 t6 t7 Q w) ?_ ?_
    · skip
      refine wpc_block ?_
      obtain ⟨I, μ, hI, hr⟩ := h
      refine wpc_loopS (α := Int × Int × Int × Int) (fun s ρ => ρ 2 = .int .i64 s.1 ∧ ρ 6 = .int .i64 s.2.1 ∧ ρ 7 = .int .i64 s.2.2.1 ∧ ρ 8 = .int .i64 s.2.2.2 ∧ ρ 0 = .pointer d_0 ∧ ρ 1 = .int .i64 i_1 ∧ ρ 9 = .bool t9) (fun s w => I s.1 s.2.1 s.2.2.1 s.2.2.2 w) (fun s w => μ s.1 s.2.1 s.2.2.1 s.2.2.2 w) (t2, t6, t7, t8) ⟨rfl, rfl, rfl, rfl, rfl, rfl, rfl⟩ hI ?_
      rintro ⟨t2, t6, t7, t8⟩ ρ w ⟨e2, e6, e7, e8, e0, e1, e9⟩ hI
      have h := hr t2 t6 t7 t8 w hI
      clear hr
      obtain ⟨nx1, hnx⟩ : ∃ nx : (Option Addr) → Int → Bool → Int → Int → Int → Int → World → Prop, nx = (fun d_0' i_1' t9' t2' t6' t7' t8' w' => (d_0' = d_0 ∧ i_1' = i_1 ∧ t9' = t9) ∧ I t2' t6' t7' t8' w' ∧ μ t2' t6' t7' t8' w' < μ t2 t6 t7 t8 w) := ⟨_, rfl⟩
      rw [← hnx] at h
      refine wpc_norm (M := fun ρ w => asP (ρ 0) fun d_0 => asI .i64 (ρ 1) fun i_1 => asB (ρ 9) fun t9 => asI .i64 (ρ 2) fun t2 => asI .i64 (ρ 6) fun t6 => asI .i64 (ρ 7) fun t7 => asI .i64 (ρ 8) fun t8 => nx1 d_0 i_1 t9 t2 t6 t7 t8 w) ?_ (fun ρ w h => ?_)
      · skip
        refine reroot e0 (reroot (upd_other e1 rfl) (reroot (upd_other (upd_other e2 rfl) rfl) (reroot (upd_other (upd_other (upd_other e6 rfl) rfl) rfl) (reroot (upd_other (upd_other (upd_other (upd_other e7 rfl) rfl) rfl) rfl) (reroot (upd_other (upd_other (upd_other (upd_other (upd_other e8 rfl) rfl) rfl) rfl) rfl) (reroot (upd_other (upd_other (upd_other (upd_other (upd_other (upd_other e9 rfl) rfl) rfl) rfl) rfl) rfl) ?_))))))
        refine wpc_seq (fun ρ w => asP (ρ 0) fun d_0 => asI .i64 (ρ 1) fun i_1 => asI .i64 (ρ 2) fun t2 => asI .i64 (ρ 6) fun t6 => asI .i64 (ρ 7) fun t7 => asI .i64 (ρ 8) fun t8 => asB (ρ 9) fun t9 => lz_finder_best.j4 d_0 i_1 t2 t6 t7 t8 t9 Q nx1 w) ?_ ?_
        · skip
          exact pt_sound hmix _ (Eq.mp (by kernel_rfl) h)
        · intro ρ w h
          obtain ⟨d_0, e0, h⟩ := asP_el h
          obtain ⟨i_1, e1, h⟩ := asI_el h
          obtain ⟨t2, e2, h⟩ := asI_el h
          obtain ⟨t6, e6, h⟩ := asI_el h
          obtain ⟨t7, e7, h⟩ := asI_el h
          obtain ⟨t8, e8, h⟩ := asI_el h
          obtain ⟨t9, e9, h⟩ := asB_el h
          refine reroot e0 (reroot (upd_other e1 rfl) (reroot (upd_other (upd_other e2 rfl) rfl) (reroot (upd_other (upd_other (upd_other e6 rfl) rfl) rfl) (reroot (upd_other (upd_other (upd_other (upd_other e7 rfl) rfl) rfl) rfl) (reroot (upd_other (upd_other (upd_other (upd_other (upd_other e8 rfl) rfl) rfl) rfl) rfl) (reroot (upd_other (upd_other (upd_other (upd_other (upd_other (upd_other e9 rfl) rfl) rfl) rfl) rfl) rfl) ?_))))))
          refine wpc_seq (fun ρ w => asP (ρ 0) fun d_0 => asI .i64 (ρ 1) fun i_1 => asI .i64 (ρ 2) fun t2 => asI .i64 (ρ 6) fun t6 => asI .i64 (ρ 7) fun t7 => asI .i64 (ρ 8) fun t8 => asB (ρ 9) fun t9 => lz_finder_best.j5 d_0 i_1 t2 t6 t7 t8 t9 Q nx1 w) ?_ ?_
          · skip
            refine wpc_block ?_
            refine wpc_seq (fun ρ w => asP (ρ 0) fun d_0 => asI .i64 (ρ 1) fun i_1 => asI .i64 (ρ 2) fun t2 => asI .i64 (ρ 6) fun t6 => asI .i64 (ρ 7) fun t7 => asI .i64 (ρ 8) fun t8 => asB (ρ 9) fun t9 => lz_finder_best.j6 d_0 i_1 t2 t6 t7 t8 t9 Q nx1 w) ?_ ?_
            · skip
              exact pt_sound hmix _ (Eq.mp (by kernel_rfl) h)
            · intro ρ w h
              obtain ⟨d_0, e0, h⟩ := asP_el h
              obtain ⟨i_1, e1, h⟩ := asI_el h
              obtain ⟨t2, e2, h⟩ := asI_el h
              obtain ⟨t6, e6, h⟩ := asI_el h
              obtain ⟨t7, e7, h⟩ := asI_el h
              obtain ⟨t8, e8, h⟩ := asI_el h
              obtain ⟨t9, e9, h⟩ := asB_el h
              refine reroot e0 (reroot (upd_other e1 rfl) (reroot (upd_other (upd_other e2 rfl) rfl) (reroot (upd_other (upd_other (upd_other e6 rfl) rfl) rfl) (reroot (upd_other (upd_other (upd_other (upd_other e7 rfl) rfl) rfl) rfl) (reroot (upd_other (upd_other (upd_other (upd_other (upd_other e8 rfl) rfl) rfl) rfl) rfl) (reroot (upd_other (upd_other (upd_other (upd_other (upd_other (upd_other e9 rfl) rfl) rfl) rfl) rfl) rfl) ?_))))))
              exact pt_sound hmix _ (Eq.mp (by kernel_rfl) h)
          · intro ρ w h
            obtain ⟨d_0, e0, h⟩ := asP_el h
            obtain ⟨i_1, e1, h⟩ := asI_el h
            obtain ⟨t2, e2, h⟩ := asI_el h
            obtain ⟨t6, e6, h⟩ := asI_el h
            obtain ⟨t7, e7, h⟩ := asI_el h
            obtain ⟨t8, e8, h⟩ := asI_el h
            obtain ⟨t9, e9, h⟩ := asB_el h
            refine reroot e0 (reroot (upd_other e1 rfl) (reroot (upd_other (upd_other e2 rfl) rfl) (reroot (upd_other (upd_other (upd_other e6 rfl) rfl) rfl) (reroot (upd_other (upd_other (upd_other (upd_other e7 rfl) rfl) rfl) rfl) (reroot (upd_other (upd_other (upd_other (upd_other (upd_other e8 rfl) rfl) rfl) rfl) rfl) (reroot (upd_other (upd_other (upd_other (upd_other (upd_other (upd_other e9 rfl) rfl) rfl) rfl) rfl) rfl) ?_))))))
            exact pt_sound hmix _ (Eq.mp (by kernel_rfl) h)
      · skip
        obtain ⟨d_0', e0', h⟩ := asP_el h
        obtain ⟨i_1', e1', h⟩ := asI_el h
        obtain ⟨t9', e9', h⟩ := asB_el h
        obtain ⟨t2', e2', h⟩ := asI_el h
        obtain ⟨t6', e6', h⟩ := asI_el h
        obtain ⟨t7', e7', h⟩ := asI_el h
        obtain ⟨t8', e8', h⟩ := asI_el h
        rw [hnx] at h
        obtain ⟨hu, hI2, hμ⟩ := h
        obtain ⟨rfl, rfl, rfl⟩ := hu
        exact ⟨(t2', t6', t7', t8'), ⟨e2', e6', e7', e8', e0', e1', e9'⟩, hI2, hμ⟩
    · intro ρ w h
      obtain ⟨t6, e6, h⟩ := asI_el h
      obtain ⟨t7, e7, h⟩ := asI_el h
      refine reroot e6 (reroot (upd_other e7 rfl) ?_)
      exact pt_sound hmix _ (Eq.mp (by kernel_rfl) h)

/-! trove/lz.Find -/
def lz_Find.j4 (out_7 : Sl) (Q : Value → World → Prop) (w : World) : Prop :=
  Calls Try.prog 131 ⟨[.slice out_7.a out_7.len out_7.cap]⟩ w fun e1 w2 =>
  ∃ r3 : Sl, e1 = .returned (.slice r3.a r3.len r3.cap) ∧
  Q (.slice r3.a r3.len r3.cap) w2

def lz_Find.b2 (b_0 : Sl) (f_5 : (Option Addr)) (looks_6 : Int) (out_7 : Sl) (t47 : Int) (at_8 : Int) (t48 : Int) (Q : Value → World → Prop) (nx1 : Sl → (Option Addr) → Int → Sl → Int → World → Prop) (nx2 : Sl → (Option Addr) → Int → Sl → Int → Int → Int → World → Prop) (w : World) : Prop :=
  br (decide ((t48 : Int) < t47)) (
  Calls Try.prog 130 ⟨[.pointer f_5, .int .i64 at_8]⟩ w fun e4 w5 =>
  e4 = .returned (.tuple ⟨[]⟩) ∧
  lt (IntKind.i64.wrap (at_8 + 1)) fun x6 =>
  lt (IntKind.i64.wrap (t48 + 1)) fun x7 =>
  nx2 b_0 f_5 looks_6 out_7 t47 x6 x7 w5) (
  nx1 b_0 f_5 looks_6 out_7 at_8 w)

def lz_Find.l2 (b_0 : Sl) (f_5 : (Option Addr)) (looks_6 : Int) (out_7 : Sl) (t47 : Int) (at_8 : Int) (t48 : Int) (Q : Value → World → Prop) (nx1 : Sl → (Option Addr) → Int → Sl → Int → World → Prop) (w : World) : Prop :=
  ∃ (I : Int → Int → World → Prop) (μ : Int → Int → World → Nat), I at_8 t48 w ∧ ∀ at_8 : Int, ∀ t48 : Int, ∀ w : World, I at_8 t48 w → lz_Find.b2 b_0 f_5 looks_6 out_7 t47 at_8 t48 Q nx1 (fun b_0' f_5' looks_6' out_7' t47' at_8' t48' w' => (b_0' = b_0 ∧ f_5' = f_5 ∧ looks_6' = looks_6 ∧ out_7' = out_7 ∧ t47' = t47) ∧ I at_8' t48' w' ∧ μ at_8' t48' w' < μ at_8 t48 w) w

def lz_Find.j9 (b_0 : Sl) (f_5 : (Option Addr)) (looks_6 : Int) (out_7 : Sl) (at_8 : Int) (t47 : Int) (t48 : Int) (Q : Value → World → Prop) (nx1 : Sl → (Option Addr) → Int → Sl → Int → World → Prop) (w : World) : Prop :=
  lz_Find.l2 b_0 f_5 looks_6 out_7 t47 at_8 t48 Q nx1 w

def lz_Find.j8 (b_0 : Sl) (f_5 : (Option Addr)) (looks_6 : Int) (out_7 : Sl) (at_8 : Int) (n_9 : Int) (t_11 : Addr) (Q : Value → World → Prop) (nx1 : Sl → (Option Addr) → Int → Sl → Int → World → Prop) (w : World) : Prop :=
  ldA w t_11 3 fun c8 =>
  (c8).size = 3 ∧
  lt (⟨World.heapSize w, 0, none⟩ : Addr) fun a9 =>
  lt (World.alloc w (.cells ⟨(spl [.int .u8 0, .int .i64 0, .int .i64 0] 0 c8)⟩ 78)) fun w10 =>
  rdO w10 (some a9) (1 * 3) fun c11 =>
  apK Try.prog 78 w10 out_7.a out_7.len out_7.cap 1 c11 fun s12 w13 =>
  lz_Find.j9 b_0 f_5 looks_6 s12 at_8 n_9 0 Q nx1 w13

def lz_Find.j7 (b_0 : Sl) (f_5 : (Option Addr)) (looks_6 : Int) (out_7 : Sl) (at_8 : Int) (n_9 : Int) (d_10 : Int) (Q : Value → World → Prop) (nx1 : Sl → (Option Addr) → Int → Sl → Int → World → Prop) (w : World) : Prop :=
  lt (⟨World.heapSize w, 0, none⟩ : Addr) fun a14 =>
  lt (World.alloc w (.cells (zc Try.prog 78) 78)) fun w15 =>
  ((⟨[.int .u8 0, .int .i64 n_9, .int .i64 d_10]⟩ : Array Value)).size = 3 ∧
  stA w15 a14 (⟨[.int .u8 0, .int .i64 n_9, .int .i64 d_10]⟩ : Array Value) fun w16 =>
  br (decide ((n_9 : Int) < 3)) (
  ixS b_0.a b_0.len at_8 1 fun a17 =>
  ldI .u8 w16 a17 fun x18 =>
  ((⟨[.int .u8 x18, .int .i64 0, .int .i64 0]⟩ : Array Value)).size = 3 ∧
  stA w16 a14 (⟨[.int .u8 x18, .int .i64 0, .int .i64 0]⟩ : Array Value) fun w19 =>
  lz_Find.j8 b_0 f_5 looks_6 out_7 at_8 1 a14 Q nx1 w19) (
  lz_Find.j8 b_0 f_5 looks_6 out_7 at_8 n_9 a14 Q nx1 w16)

def lz_Find.j6 (b_0 : Sl) (f_5 : (Option Addr)) (looks_6 : Int) (out_7 : Sl) (at_8 : Int) (Q : Value → World → Prop) (nx1 : Sl → (Option Addr) → Int → Sl → Int → World → Prop) (w : World) : Prop :=
  Calls Try.prog 129 ⟨[.pointer f_5, .int .i64 at_8, .int .i64 looks_6]⟩ w fun e20 w21 =>
  ∃ r22 : Int, ∃ r23 : Int, e20 = .returned (.tuple ⟨[.int .i64 r22, .int .i64 r23]⟩) ∧
  lz_Find.j7 b_0 f_5 looks_6 out_7 at_8 r22 r23 Q nx1 w21

def lz_Find.b1 (b_0 : Sl) (f_5 : (Option Addr)) (looks_6 : Int) (out_7 : Sl) (at_8 : Int) (Q : Value → World → Prop) (nx1 : Sl → (Option Addr) → Int → Sl → Int → World → Prop) (w : World) : Prop :=
  br (decide ((at_8 : Int) < ((b_0.len : Nat) : Int))) (
  lz_Find.j6 b_0 f_5 looks_6 out_7 at_8 Q nx1 w) (
  lz_Find.j4 out_7 Q w)

def lz_Find.l1 (b_0 : Sl) (f_5 : (Option Addr)) (looks_6 : Int) (out_7 : Sl) (at_8 : Int) (Q : Value → World → Prop) (w : World) : Prop :=
  ∃ (I : Sl → Int → World → Prop) (μ : Sl → Int → World → Nat), I out_7 at_8 w ∧ ∀ out_7 : Sl, ∀ at_8 : Int, ∀ w : World, I out_7 at_8 w → lz_Find.b1 b_0 f_5 looks_6 out_7 at_8 Q (fun b_0' f_5' looks_6' out_7' at_8' w' => (b_0' = b_0 ∧ f_5' = f_5 ∧ looks_6' = looks_6) ∧ I out_7' at_8' w' ∧ μ out_7' at_8' w' < μ out_7 at_8 w) w

def lz_Find.j5 (b_0 : Sl) (f_5 : (Option Addr)) (looks_6 : Int) (out_7 : Sl) (at_8 : Int) (Q : Value → World → Prop) (w : World) : Prop :=
  lz_Find.l1 b_0 f_5 looks_6 out_7 at_8 Q w

def lz_Find.j3 (b_0 : Sl) (f_5 : (Option Addr)) (looks_6 : Int) (out_7 : Sl) (Q : Value → World → Prop) (w : World) : Prop :=
  lz_Find.j5 b_0 f_5 looks_6 out_7 0 Q w

def lz_Find.j2 (b_0 : Sl) (effort_1 : Int) (f_5 : (Option Addr)) (Q : Value → World → Prop) (w : World) : Prop :=
  lt (if (0 : Int) > effort_1 then 0 else effort_1) fun x24 =>
  lt (if (4096 : Int) < x24 then 4096 else x24) fun x25 =>
  lz_Find.j3 b_0 f_5 x25 ⟨none, 0, 0⟩ Q w

def lz_Find.j1 (b_0 : Sl) (effort_1 : Int) (Q : Value → World → Prop) (w : World) : Prop :=
  br (decide ((((b_0.len : Nat) : Int) : Int) > 262144)) (
  Q (.slice none 0 0) w) (
  ∃ n26 : Nat, ∃ w27 : World, mmR Try.prog 161 none w n26 w27 ∧
  lt (⟨World.heapSize w27, 0, none⟩ : Addr) fun a28 =>
  lt (World.alloc w27 (.cells (⟨[.slice b_0.a b_0.len b_0.cap, .map (some n26), .slice none 0 0]⟩ : Array Value) 163)) fun w29 =>
  lz_Find.j2 b_0 effort_1 (some a28) Q w29)

def lz_Find (b_0 : Sl) (effort_1 : Int) (Q : Value → World → Prop) (w : World) : Prop :=
  lz_Find.j1 b_0 effort_1 Q w

theorem lz_Find.ok (b_0 : Sl) (effort_1 : Int) (Q : Value → World → Prop) (w : World) (h : lz_Find b_0 effort_1 Q w) : Calls Try.prog 72 ⟨[.slice b_0.a b_0.len b_0.cap, .int .i64 effort_1]⟩ w (Ret Q) := by
  refine calls_of_wpc [.tmp 4] Try.func72 rfl rfl rfl rfl ?_
  refine wpc_seq (fun ρ w => asL (ρ 0) fun b_0 => asI .i64 (ρ 1) fun effort_1 => lz_Find.j1 b_0 effort_1 Q w) ?_ ?_
  · skip
    exact pt_sound hmix _ (Eq.mp (by kernel_rfl) h)
  · intro ρ w h
    obtain ⟨b_0, e0, h⟩ := asL_el h
    obtain ⟨effort_1, e1, h⟩ := asI_el h
    refine reroot e0 (reroot (upd_other e1 rfl) ?_)
    refine wpc_pre2 hmix (fun ρ w => asL (ρ 0) fun b_0 => asI .i64 (ρ 1) fun effort_1 => asP (ρ 5) fun f_5 => lz_Find.j2 b_0 effort_1 f_5 Q w) (Eq.mp (by kernel_rfl) h) ?_
    intro ρ w h
    obtain ⟨b_0, e0, h⟩ := asL_el h
    obtain ⟨effort_1, e1, h⟩ := asI_el h
    obtain ⟨f_5, e5, h⟩ := asP_el h
    refine reroot e0 (reroot (upd_other e1 rfl) (reroot (upd_other (upd_other e5 rfl) rfl) ?_))
    refine wpc_pre2 hmix (fun ρ w => asL (ρ 0) fun b_0 => asP (ρ 5) fun f_5 => asI .i64 (ρ 6) fun looks_6 => asL (ρ 7) fun out_7 => lz_Find.j3 b_0 f_5 looks_6 out_7 Q w) (Eq.mp (by kernel_rfl) h) ?_
    intro ρ w h
    obtain ⟨b_0, e0, h⟩ := asL_el h
    obtain ⟨f_5, e5, h⟩ := asP_el h
    obtain ⟨looks_6, e6, h⟩ := asI_el h
    obtain ⟨out_7, e7, h⟩ := asL_el h
    refine reroot e0 (reroot (upd_other e5 rfl) (reroot (upd_other (upd_other e6 rfl) rfl) (reroot (upd_other (upd_other (upd_other e7 rfl) rfl) rfl) ?_)))
    refine wpc_seq (fun ρ w => asL (ρ 7) fun out_7 => lz_Find.j4 out_7 Q w) ?_ ?_
    · skip
      refine wpc_seq (fun ρ w => asL (ρ 0) fun b_0 => asP (ρ 5) fun f_5 => asI .i64 (ρ 6) fun looks_6 => asL (ρ 7) fun out_7 => asI .i64 (ρ 8) fun at_8 => lz_Find.j5 b_0 f_5 looks_6 out_7 at_8 Q w) ?_ ?_
      · skip
        exact pt_sound hmix _ (Eq.mp (by kernel_rfl) h)
      · intro ρ w h
        obtain ⟨b_0, e0, h⟩ := asL_el h
        obtain ⟨f_5, e5, h⟩ := asP_el h
        obtain ⟨looks_6, e6, h⟩ := asI_el h
        obtain ⟨out_7, e7, h⟩ := asL_el h
        obtain ⟨at_8, e8, h⟩ := asI_el h
        refine reroot e0 (reroot (upd_other e5 rfl) (reroot (upd_other (upd_other e6 rfl) rfl) (reroot (upd_other (upd_other (upd_other e7 rfl) rfl) rfl) (reroot (upd_other (upd_other (upd_other (upd_other e8 rfl) rfl) rfl) rfl) ?_))))
        refine wpc_block ?_
        obtain ⟨I, μ, hI, hr⟩ := h
        refine wpc_loopS (α := Sl × Int) (fun s ρ => ρ 7 = .slice s.1.a s.1.len s.1.cap ∧ ρ 8 = .int .i64 s.2 ∧ ρ 0 = .slice b_0.a b_0.len b_0.cap ∧ ρ 5 = .pointer f_5 ∧ ρ 6 = .int .i64 looks_6) (fun s w => I s.1 s.2 w) (fun s w => μ s.1 s.2 w) (out_7, at_8) ⟨rfl, rfl, rfl, rfl, rfl⟩ hI ?_
        rintro ⟨out_7, at_8⟩ ρ w ⟨e7, e8, e0, e5, e6⟩ hI
        have h := hr out_7 at_8 w hI
        clear hr
        obtain ⟨nx1, hnx⟩ : ∃ nx : Sl → (Option Addr) → Int → Sl → Int → World → Prop, nx = (fun b_0' f_5' looks_6' out_7' at_8' w' => (b_0' = b_0 ∧ f_5' = f_5 ∧ looks_6' = looks_6) ∧ I out_7' at_8' w' ∧ μ out_7' at_8' w' < μ out_7 at_8 w) := ⟨_, rfl⟩
        rw [← hnx] at h
        refine wpc_norm (M := fun ρ w => asL (ρ 0) fun b_0 => asP (ρ 5) fun f_5 => asI .i64 (ρ 6) fun looks_6 => asL (ρ 7) fun out_7 => asI .i64 (ρ 8) fun at_8 => nx1 b_0 f_5 looks_6 out_7 at_8 w) ?_ (fun ρ w h => ?_)
        · skip
          refine reroot e0 (reroot (upd_other e5 rfl) (reroot (upd_other (upd_other e6 rfl) rfl) (reroot (upd_other (upd_other (upd_other e7 rfl) rfl) rfl) (reroot (upd_other (upd_other (upd_other (upd_other e8 rfl) rfl) rfl) rfl) ?_))))
          refine wpc_seq (fun ρ w => asL (ρ 0) fun b_0 => asP (ρ 5) fun f_5 => asI .i64 (ρ 6) fun looks_6 => asL (ρ 7) fun out_7 => asI .i64 (ρ 8) fun at_8 => lz_Find.j6 b_0 f_5 looks_6 out_7 at_8 Q nx1 w) ?_ ?_
          · skip
            exact pt_sound hmix _ (Eq.mp (by kernel_rfl) h)
          · intro ρ w h
            obtain ⟨b_0, e0, h⟩ := asL_el h
            obtain ⟨f_5, e5, h⟩ := asP_el h
            obtain ⟨looks_6, e6, h⟩ := asI_el h
            obtain ⟨out_7, e7, h⟩ := asL_el h
            obtain ⟨at_8, e8, h⟩ := asI_el h
            refine reroot e0 (reroot (upd_other e5 rfl) (reroot (upd_other (upd_other e6 rfl) rfl) (reroot (upd_other (upd_other (upd_other e7 rfl) rfl) rfl) (reroot (upd_other (upd_other (upd_other (upd_other e8 rfl) rfl) rfl) rfl) ?_))))
            refine wpc_block ?_
            refine wpc_seq (fun ρ w => asL (ρ 0) fun b_0 => asP (ρ 5) fun f_5 => asI .i64 (ρ 6) fun looks_6 => asL (ρ 7) fun out_7 => asI .i64 (ρ 8) fun at_8 => asI .i64 (ρ 9) fun n_9 => asI .i64 (ρ 10) fun d_10 => lz_Find.j7 b_0 f_5 looks_6 out_7 at_8 n_9 d_10 Q nx1 w) ?_ ?_
            · skip
              exact pt_sound hmix _ (Eq.mp (by kernel_rfl) h)
            · intro ρ w h
              obtain ⟨b_0, e0, h⟩ := asL_el h
              obtain ⟨f_5, e5, h⟩ := asP_el h
              obtain ⟨looks_6, e6, h⟩ := asI_el h
              obtain ⟨out_7, e7, h⟩ := asL_el h
              obtain ⟨at_8, e8, h⟩ := asI_el h
              obtain ⟨n_9, e9, h⟩ := asI_el h
              obtain ⟨d_10, e10, h⟩ := asI_el h
              refine reroot e0 (reroot (upd_other e5 rfl) (reroot (upd_other (upd_other e6 rfl) rfl) (reroot (upd_other (upd_other (upd_other e7 rfl) rfl) rfl) (reroot (upd_other (upd_other (upd_other (upd_other e8 rfl) rfl) rfl) rfl) (reroot (upd_other (upd_other (upd_other (upd_other (upd_other e9 rfl) rfl) rfl) rfl) rfl) (reroot (upd_other (upd_other (upd_other (upd_other (upd_other (upd_other e10 rfl) rfl) rfl) rfl) rfl) rfl) ?_))))))
              refine wpc_pre2 hmix (fun ρ w => asL (ρ 0) fun b_0 => asP (ρ 5) fun f_5 => asI .i64 (ρ 6) fun looks_6 => asL (ρ 7) fun out_7 => asI .i64 (ρ 8) fun at_8 => asI .i64 (ρ 9) fun n_9 => asA (ρ 11) fun t_11 => lz_Find.j8 b_0 f_5 looks_6 out_7 at_8 n_9 t_11 Q nx1 w) (Eq.mp (by kernel_rfl) h) ?_
              intro ρ w h
              obtain ⟨b_0, e0, h⟩ := asL_el h
              obtain ⟨f_5, e5, h⟩ := asP_el h
              obtain ⟨looks_6, e6, h⟩ := asI_el h
              obtain ⟨out_7, e7, h⟩ := asL_el h
              obtain ⟨at_8, e8, h⟩ := asI_el h
              obtain ⟨n_9, e9, h⟩ := asI_el h
              obtain ⟨t_11, e11, h⟩ := asA_el h
              refine reroot e0 (reroot (upd_other e5 rfl) (reroot (upd_other (upd_other e6 rfl) rfl) (reroot (upd_other (upd_other (upd_other e7 rfl) rfl) rfl) (reroot (upd_other (upd_other (upd_other (upd_other e8 rfl) rfl) rfl) rfl) (reroot (upd_other (upd_other (upd_other (upd_other (upd_other e9 rfl) rfl) rfl) rfl) rfl) (reroot (upd_other (upd_other (upd_other (upd_other (upd_other (upd_other e11 rfl) rfl) rfl) rfl) rfl) rfl) ?_))))))
              refine wpc_pre2 hmix (fun ρ w => asL (ρ 0) fun b_0 => asP (ρ 5) fun f_5 => asI .i64 (ρ 6) fun looks_6 => asL (ρ 7) fun out_7 => asI .i64 (ρ 8) fun at_8 => asI .i64 (ρ 47) fun t47 => asI .i64 (ρ 48) fun t48 => lz_Find.j9 b_0 f_5 looks_6 out_7 at_8 t47 t48 Q nx1 w) (Eq.mp (by kernel_rfl) h) ?_
              intro ρ w h
              obtain ⟨b_0, e0, h⟩ := asL_el h
              obtain ⟨f_5, e5, h⟩ := asP_el h
              obtain ⟨looks_6, e6, h⟩ := asI_el h
              obtain ⟨out_7, e7, h⟩ := asL_el h
              obtain ⟨at_8, e8, h⟩ := asI_el h
              obtain ⟨t47, e47, h⟩ := asI_el h
              obtain ⟨t48, e48, h⟩ := asI_el h
              refine reroot e0 (reroot (upd_other e5 rfl) (reroot (upd_other (upd_other e6 rfl) rfl) (reroot (upd_other (upd_other (upd_other e7 rfl) rfl) rfl) (reroot (upd_other (upd_other (upd_other (upd_other e8 rfl) rfl) rfl) rfl) (reroot (upd_other (upd_other (upd_other (upd_other (upd_other e47 rfl) rfl) rfl) rfl) rfl) (reroot (upd_other (upd_other (upd_other (upd_other (upd_other (upd_other e48 rfl) rfl) rfl) rfl) rfl) rfl) ?_))))))
              refine wpc_block ?_
              obtain ⟨I, μ, hI, hr⟩ := h
              refine wpc_loopS (α := Int × Int) (fun s ρ => ρ 8 = .int .i64 s.1 ∧ ρ 48 = .int .i64 s.2 ∧ ρ 0 = .slice b_0.a b_0.len b_0.cap ∧ ρ 5 = .pointer f_5 ∧ ρ 6 = .int .i64 looks_6 ∧ ρ 7 = .slice out_7.a out_7.len out_7.cap ∧ ρ 47 = .int .i64 t47) (fun s w => I s.1 s.2 w) (fun s w => μ s.1 s.2 w) (at_8, t48) ⟨rfl, rfl, rfl, rfl, rfl, rfl, rfl⟩ hI ?_
              rintro ⟨at_8, t48⟩ ρ w ⟨e8, e48, e0, e5, e6, e7, e47⟩ hI
              have h := hr at_8 t48 w hI
              clear hr
              obtain ⟨nx2, hnx⟩ : ∃ nx : Sl → (Option Addr) → Int → Sl → Int → Int → Int → World → Prop, nx = (fun b_0' f_5' looks_6' out_7' t47' at_8' t48' w' => (b_0' = b_0 ∧ f_5' = f_5 ∧ looks_6' = looks_6 ∧ out_7' = out_7 ∧ t47' = t47) ∧ I at_8' t48' w' ∧ μ at_8' t48' w' < μ at_8 t48 w) := ⟨_, rfl⟩
              rw [← hnx] at h
              refine wpc_norm (M := fun ρ w => asL (ρ 0) fun b_0 => asP (ρ 5) fun f_5 => asI .i64 (ρ 6) fun looks_6 => asL (ρ 7) fun out_7 => asI .i64 (ρ 47) fun t47 => asI .i64 (ρ 8) fun at_8 => asI .i64 (ρ 48) fun t48 => nx2 b_0 f_5 looks_6 out_7 t47 at_8 t48 w) ?_ (fun ρ w h => ?_)
              · skip
                refine reroot e0 (reroot (upd_other e5 rfl) (reroot (upd_other (upd_other e6 rfl) rfl) (reroot (upd_other (upd_other (upd_other e7 rfl) rfl) rfl) (reroot (upd_other (upd_other (upd_other (upd_other e8 rfl) rfl) rfl) rfl) (reroot (upd_other (upd_other (upd_other (upd_other (upd_other e47 rfl) rfl) rfl) rfl) rfl) (reroot (upd_other (upd_other (upd_other (upd_other (upd_other (upd_other e48 rfl) rfl) rfl) rfl) rfl) rfl) ?_))))))
                exact pt_sound hmix _ (Eq.mp (by kernel_rfl) h)
              · skip
                obtain ⟨b_0', e0', h⟩ := asL_el h
                obtain ⟨f_5', e5', h⟩ := asP_el h
                obtain ⟨looks_6', e6', h⟩ := asI_el h
                obtain ⟨out_7', e7', h⟩ := asL_el h
                obtain ⟨t47', e47', h⟩ := asI_el h
                obtain ⟨at_8', e8', h⟩ := asI_el h
                obtain ⟨t48', e48', h⟩ := asI_el h
                rw [hnx] at h
                obtain ⟨hu, hI2, hμ⟩ := h
                obtain ⟨rfl, rfl, rfl, rfl, rfl⟩ := hu
                exact ⟨(at_8', t48'), ⟨e8', e48', e0', e5', e6', e7', e47'⟩, hI2, hμ⟩
        · skip
          obtain ⟨b_0', e0', h⟩ := asL_el h
          obtain ⟨f_5', e5', h⟩ := asP_el h
          obtain ⟨looks_6', e6', h⟩ := asI_el h
          obtain ⟨out_7', e7', h⟩ := asL_el h
          obtain ⟨at_8', e8', h⟩ := asI_el h
          rw [hnx] at h
          obtain ⟨hu, hI2, hμ⟩ := h
          obtain ⟨rfl, rfl, rfl⟩ := hu
          exact ⟨(out_7', at_8'), ⟨e7', e8', e0', e5', e6'⟩, hI2, hμ⟩
    · intro ρ w h
      obtain ⟨out_7, e7, h⟩ := asL_el h
      refine reroot e7 ?_
      exact pt_sound hmix _ (Eq.mp (by kernel_rfl) h)

/-! slices.Clip[[]trove/lz.Token,trove/lz.Token] -/
def slices_Clip_lz_Token (s_0 : Sl) (Q : Value → World → Prop) (w : World) : Prop :=
  bd ((s_0.len : Nat) : Int) s_0.cap fun n1 =>
  bd ((s_0.len : Nat) : Int) n1 fun n2 =>
  lt (⟨cutA s_0.a n1 0 3, n2 - 0, n1 - 0⟩ : Sl) fun s3 =>
  Q (.slice s3.a s3.len s3.cap) w

theorem slices_Clip_lz_Token.ok (s_0 : Sl) (Q : Value → World → Prop) (w : World) (h : slices_Clip_lz_Token s_0 Q w) : Calls Try.prog 131 ⟨[.slice s_0.a s_0.len s_0.cap]⟩ w (Ret Q) := by
  refine calls_of_wpc [.tmp 2] Try.func131 rfl rfl rfl rfl ?_
  exact pt_sound hmix _ (Eq.mp (by kernel_rfl) h)

end Go.Proofs.Ytkajimndclhgaaa
