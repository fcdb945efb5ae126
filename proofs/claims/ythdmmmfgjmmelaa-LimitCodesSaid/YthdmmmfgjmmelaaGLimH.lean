/- PRINTED BY gen.py (own work): what calls come to, and the proofs of it. -/
import Derived.Test.YthdmmmfgjmmelaaVcK
import Derived.Test.YthdmmmfgjmmelaaProg
namespace Go.Proofs.Ythdmmmfgjmmelaa
open Go Go.Proofs
set_option linter.unusedVariables false
set_option maxRecDepth 100000

/-! (trove/limit.trees).Len -/
def limit_trees_Len (t_0 : Sl) (Q : Value → World → Prop) (w : World) : Prop :=
  Q (.int .i64 ((t_0.len : Nat) : Int)) w

theorem limit_trees_Len.ok (t_0 : Sl) (Q : Value → World → Prop) (w : World) (h : limit_trees_Len t_0 Q w) : Calls Try.prog 83 ⟨[.slice t_0.a t_0.len t_0.cap]⟩ w (Ret Q) := by
  refine calls_of_wpc [.tmp 2] Try.func83 rfl rfl rfl rfl ?_
  exact pt_sound hmix _ (Eq.mp (by kernel_rfl) h)

/-! (trove/limit.trees).Less -/
def limit_trees_Less (t_0 : Sl) (i_1 : Int) (k_2 : Int) (Q : Value → World → Prop) (w : World) : Prop :=
  lt (World.drew w) fun w1 =>
  ixS t_0.a t_0.len i_1 1 fun a2 =>
  ldP w1 a2 fun x3 =>
  nz x3 fun a4 =>
  ldI .i64 w1 (Addr.add a4 0) fun x5 =>
  ixS t_0.a t_0.len k_2 1 fun a6 =>
  ldP w1 a6 fun x7 =>
  nz x7 fun a8 =>
  ldI .i64 w1 (Addr.add a8 0) fun x9 =>
  Q (.bool (decide ((x5 : Int) < x9))) w1

theorem limit_trees_Less.ok (t_0 : Sl) (i_1 : Int) (k_2 : Int) (Q : Value → World → Prop) (w : World) (h : limit_trees_Less t_0 i_1 k_2 Q w) : Calls Try.prog 209 ⟨[.slice t_0.a t_0.len t_0.cap, .int .i64 i_1, .int .i64 k_2]⟩ w (Ret Q) := by
  refine calls_of_wpc [.tmp 6] Try.func209 rfl rfl rfl rfl ?_
  exact pt_sound hmix _ (Eq.mp (by kernel_rfl) h)

/-! (trove/limit.trees).Swap -/
def limit_trees_Swap (t_0 : Sl) (i_1 : Int) (k_2 : Int) (Q : Value → World → Prop) (w : World) : Prop :=
  lt (World.drew w) fun w1 =>
  ixS t_0.a t_0.len k_2 1 fun a2 =>
  ldP w1 a2 fun x3 =>
  ixS t_0.a t_0.len i_1 1 fun a4 =>
  ldP w1 a4 fun x5 =>
  ixS t_0.a t_0.len i_1 1 fun a6 =>
  st w1 a6 (.pointer x3) fun w7 =>
  ixS t_0.a t_0.len k_2 1 fun a8 =>
  st w7 a8 (.pointer x5) fun w9 =>
  Q (.tuple ⟨[]⟩) w9

theorem limit_trees_Swap.ok (t_0 : Sl) (i_1 : Int) (k_2 : Int) (Q : Value → World → Prop) (w : World) (h : limit_trees_Swap t_0 i_1 k_2 Q w) : Calls Try.prog 212 ⟨[.slice t_0.a t_0.len t_0.cap, .int .i64 i_1, .int .i64 k_2]⟩ w (Ret Q) := by
  refine calls_of_wpc [] Try.func212 rfl rfl rfl rfl ?_
  exact pt_sound hmix _ (Eq.mp (by kernel_rfl) h)

/-! (*trove/limit.trees).Push -/
def limit_trees_Push (t_0 : (Option Addr)) (x_1 : (Nat × Value)) (Q : Value → World → Prop) (w : World) : Prop :=
  eqT x_1.1 134 (
  asP x_1.2 fun x1 =>
  nz t_0 fun a2 =>
  ldL w a2 fun x3 =>
  lt (⟨World.heapSize w, 0, none⟩ : Addr) fun a4 =>
  lt (World.alloc w (.cells ⟨[.pointer x1]⟩ 134)) fun w5 =>
  rdO w5 (some a4) (1 * 1) fun c6 =>
  apK Try.prog 134 w5 x3.a x3.len x3.cap 1 c6 fun s7 w8 =>
  nz t_0 fun a9 =>
  st w8 a9 (.slice s7.a s7.len s7.cap) fun w10 =>
  Q (.tuple ⟨[]⟩) w10)

theorem limit_trees_Push.ok (t_0 : (Option Addr)) (x_1 : (Nat × Value)) (Q : Value → World → Prop) (w : World) (h : limit_trees_Push t_0 x_1 Q w) : Calls Try.prog 211 ⟨[.pointer t_0, .iface x_1.1 x_1.2]⟩ w (Ret Q) := by
  refine calls_of_wpc [] Try.func211 rfl rfl rfl rfl ?_
  exact pt_sound hmix _ (Eq.mp (by kernel_rfl) h)

/-! (*trove/limit.trees).Pop -/
def limit_trees_Pop (t_0 : (Option Addr)) (Q : Value → World → Prop) (w : World) : Prop :=
  nz t_0 fun a1 =>
  ldL w a1 fun x2 =>
  lt (IntKind.i64.wrap (((x2.len : Nat) : Int) - 1)) fun x3 =>
  nz t_0 fun a4 =>
  ldL w a4 fun x5 =>
  ixS x5.a x5.len x3 1 fun a6 =>
  ldP w a6 fun x7 =>
  nz t_0 fun a8 =>
  ldL w a8 fun x9 =>
  bd x3 x9.cap fun n10 =>
  lt (⟨cutA x9.a x9.cap 0 1, n10 - 0, x9.cap - 0⟩ : Sl) fun s11 =>
  nz t_0 fun a12 =>
  st w a12 (.slice s11.a s11.len s11.cap) fun w13 =>
  Q (.iface 134 (.pointer x7)) w13

theorem limit_trees_Pop.ok (t_0 : (Option Addr)) (Q : Value → World → Prop) (w : World) (h : limit_trees_Pop t_0 Q w) : Calls Try.prog 210 ⟨[.pointer t_0]⟩ w (Ret Q) := by
  refine calls_of_wpc [.tmp 2] Try.func210 rfl rfl rfl rfl ?_
  exact pt_sound hmix _ (Eq.mp (by kernel_rfl) h)

/-! container/heap.up -/
def heap_up.b1 (h_0 : Addr) (j_1 : Int) (Q : Value → World → Prop) (nx1 : Addr → Int → World → Prop) (w : World) : Prop :=
  lt (IntKind.i64.wrap (j_1 - 1)) fun x1 =>
  (2 : Int) ≠ 0 ∧
  lt (IntKind.i64.wrap (Int.tdiv x1 2)) fun x2 =>
  br ((x2 : Int) == j_1) (
  Q (.tuple ⟨[]⟩) w) (
  ldL w h_0 fun x3 =>
  Calls Try.prog 209 ⟨[.slice x3.a x3.len x3.cap, .int .i64 j_1, .int .i64 x2]⟩ w fun e4 w5 =>
  ∃ r6 : Bool, e4 = .returned (.bool r6) ∧
  br (!r6) (
  Q (.tuple ⟨[]⟩) w5) (
  ldL w5 h_0 fun x7 =>
  Calls Try.prog 212 ⟨[.slice x7.a x7.len x7.cap, .int .i64 x2, .int .i64 j_1]⟩ w5 fun e8 w9 =>
  e8 = .returned (.tuple ⟨[]⟩) ∧
  nx1 h_0 x2 w9))

def heap_up.l1 (h_0 : Addr) (j_1 : Int) (Q : Value → World → Prop) (w : World) : Prop :=
  ∃ (I : Int → World → Prop) (μ : Int → World → Nat), I j_1 w ∧ ∀ j_1 : Int, ∀ w : World, I j_1 w → heap_up.b1 h_0 j_1 Q (fun h_0' j_1' w' => (h_0' = h_0) ∧ I j_1' w' ∧ μ j_1' w' < μ j_1 w) w

def heap_up (h_0 : Addr) (j_1 : Int) (Q : Value → World → Prop) (w : World) : Prop :=
  heap_up.l1 h_0 j_1 Q w

theorem heap_up.ok (h_0 : Addr) (j_1 : Int) (Q : Value → World → Prop) (w : World) (h : heap_up h_0 j_1 Q w) : Calls Try.prog 131 ⟨[.iface 130 (.pointer (some h_0)), .int .i64 j_1]⟩ w (Ret Q) := by
  refine calls_of_wpc [] Try.func131 rfl rfl rfl rfl ?_
  refine wpc_block ?_
  obtain ⟨I, μ, hI, hr⟩ := h
  refine wpc_loopS (α := Int) (fun s ρ => ρ 1 = .int .i64 s ∧ ρ 0 = .iface 130 (.pointer (some h_0))) (fun s w => I s w) (fun s w => μ s w) j_1 ⟨rfl, rfl⟩ hI ?_
  rintro j_1 ρ w ⟨e1, e0⟩ hI
  have h := hr j_1 w hI
  clear hr
  obtain ⟨nx1, hnx⟩ : ∃ nx : Addr → Int → World → Prop, nx = (fun h_0' j_1' w' => (h_0' = h_0) ∧ I j_1' w' ∧ μ j_1' w' < μ j_1 w) := ⟨_, rfl⟩
  rw [← hnx] at h
  refine wpc_norm (M := fun ρ w => asQ 130 (ρ 0) fun h_0 => asI .i64 (ρ 1) fun j_1 => nx1 h_0 j_1 w) ?_ (fun ρ w h => ?_)
  · skip
    refine reroot e0 (reroot (upd_other e1 rfl) ?_)
    exact pt_sound hmix _ (Eq.mp (by kernel_rfl) h)
  · skip
    obtain ⟨h_0', e0', h⟩ := asQ_el h
    obtain ⟨j_1', e1', h⟩ := asI_el h
    rw [hnx] at h
    obtain ⟨hu, hI2, hμ⟩ := h
    obtain rfl := hu
    exact ⟨j_1', ⟨e1', e0'⟩, hI2, hμ⟩

/-! container/heap.down -/
def heap_down.j2 (i0_1 : Int) (i_7 : Int) (Q : Value → World → Prop) (w : World) : Prop :=
  Q (.bool (decide ((i_7 : Int) > i0_1))) w

def heap_down.j4 (h_0 : Addr) (i0_1 : Int) (n_2 : Int) (i_7 : Int) (j_9 : Int) (Q : Value → World → Prop) (nx1 : Addr → Int → Int → Int → World → Prop) (w : World) : Prop :=
  ldL w h_0 fun x1 =>
  Calls Try.prog 209 ⟨[.slice x1.a x1.len x1.cap, .int .i64 j_9, .int .i64 i_7]⟩ w fun e2 w3 =>
  ∃ r4 : Bool, e2 = .returned (.bool r4) ∧
  br (!r4) (
  heap_down.j2 i0_1 i_7 Q w3) (
  ldL w3 h_0 fun x5 =>
  Calls Try.prog 212 ⟨[.slice x5.a x5.len x5.cap, .int .i64 i_7, .int .i64 j_9]⟩ w3 fun e6 w7 =>
  e6 = .returned (.tuple ⟨[]⟩) ∧
  nx1 h_0 i0_1 n_2 j_9 w7)

def heap_down.j3 (h_0 : Addr) (i0_1 : Int) (n_2 : Int) (i_7 : Int) (j1_8 : Int) (Q : Value → World → Prop) (nx1 : Addr → Int → Int → Int → World → Prop) (w : World) : Prop :=
  lt (IntKind.i64.wrap (j1_8 + 1)) fun x8 =>
  br (decide ((x8 : Int) < n_2)) (
  ldL w h_0 fun x9 =>
  Calls Try.prog 209 ⟨[.slice x9.a x9.len x9.cap, .int .i64 x8, .int .i64 j1_8]⟩ w fun e10 w11 =>
  ∃ r12 : Bool, e10 = .returned (.bool r12) ∧
  br r12 (
  heap_down.j4 h_0 i0_1 n_2 i_7 x8 Q nx1 w11) (
  heap_down.j4 h_0 i0_1 n_2 i_7 j1_8 Q nx1 w11)) (
  heap_down.j4 h_0 i0_1 n_2 i_7 j1_8 Q nx1 w)

def heap_down.b1 (h_0 : Addr) (i0_1 : Int) (n_2 : Int) (i_7 : Int) (Q : Value → World → Prop) (nx1 : Addr → Int → Int → Int → World → Prop) (w : World) : Prop :=
  lt (IntKind.i64.wrap (2 * i_7)) fun x13 =>
  lt (IntKind.i64.wrap (x13 + 1)) fun x14 =>
  br (decide ((x14 : Int) ≥ n_2)) (
  heap_down.j2 i0_1 i_7 Q w) (
  br (decide ((x14 : Int) < 0)) (
  heap_down.j2 i0_1 i_7 Q w) (
  heap_down.j3 h_0 i0_1 n_2 i_7 x14 Q nx1 w))

def heap_down.l1 (h_0 : Addr) (i0_1 : Int) (n_2 : Int) (i_7 : Int) (Q : Value → World → Prop) (w : World) : Prop :=
  ∃ (I : Int → World → Prop) (μ : Int → World → Nat), I i_7 w ∧ ∀ i_7 : Int, ∀ w : World, I i_7 w → heap_down.b1 h_0 i0_1 n_2 i_7 Q (fun h_0' i0_1' n_2' i_7' w' => (h_0' = h_0 ∧ i0_1' = i0_1 ∧ n_2' = n_2) ∧ I i_7' w' ∧ μ i_7' w' < μ i_7 w) w

def heap_down.j1 (h_0 : Addr) (i0_1 : Int) (n_2 : Int) (i_7 : Int) (Q : Value → World → Prop) (w : World) : Prop :=
  heap_down.l1 h_0 i0_1 n_2 i_7 Q w

def heap_down (h_0 : Addr) (i0_1 : Int) (n_2 : Int) (Q : Value → World → Prop) (w : World) : Prop :=
  heap_down.j1 h_0 i0_1 n_2 i0_1 Q w

theorem heap_down.ok (h_0 : Addr) (i0_1 : Int) (n_2 : Int) (Q : Value → World → Prop) (w : World) (h : heap_down h_0 i0_1 n_2 Q w) : Calls Try.prog 164 ⟨[.iface 130 (.pointer (some h_0)), .int .i64 i0_1, .int .i64 n_2]⟩ w (Ret Q) := by
  refine calls_of_wpc [.tmp 6] Try.func164 rfl rfl rfl rfl ?_
  refine wpc_pre2 hmix (fun ρ w => asQ 130 (ρ 0) fun h_0 => asI .i64 (ρ 1) fun i0_1 => asI .i64 (ρ 2) fun n_2 => asI .i64 (ρ 7) fun i_7 => heap_down.j1 h_0 i0_1 n_2 i_7 Q w) (Eq.mp (by kernel_rfl) h) ?_
  intro ρ w h
  obtain ⟨h_0, e0, h⟩ := asQ_el h
  obtain ⟨i0_1, e1, h⟩ := asI_el h
  obtain ⟨n_2, e2, h⟩ := asI_el h
  obtain ⟨i_7, e7, h⟩ := asI_el h
  refine reroot e0 (reroot (upd_other e1 rfl) (reroot (upd_other (upd_other e2 rfl) rfl) (reroot (upd_other (upd_other (upd_other e7 rfl) rfl) rfl) ?_)))
  refine wpc_seq (fun ρ w => asI .i64 (ρ 1) fun i0_1 => asI .i64 (ρ 7) fun i_7 => heap_down.j2 i0_1 i_7 Q w) ?_ ?_
  · skip
    refine wpc_block ?_
    obtain ⟨I, μ, hI, hr⟩ := h
    refine wpc_loopS (α := Int) (fun s ρ => ρ 7 = .int .i64 s ∧ ρ 0 = .iface 130 (.pointer (some h_0)) ∧ ρ 1 = .int .i64 i0_1 ∧ ρ 2 = .int .i64 n_2) (fun s w => I s w) (fun s w => μ s w) i_7 ⟨rfl, rfl, rfl, rfl⟩ hI ?_
    rintro i_7 ρ w ⟨e7, e0, e1, e2⟩ hI
    have h := hr i_7 w hI
    clear hr
    obtain ⟨nx1, hnx⟩ : ∃ nx : Addr → Int → Int → Int → World → Prop, nx = (fun h_0' i0_1' n_2' i_7' w' => (h_0' = h_0 ∧ i0_1' = i0_1 ∧ n_2' = n_2) ∧ I i_7' w' ∧ μ i_7' w' < μ i_7 w) := ⟨_, rfl⟩
    rw [← hnx] at h
    refine wpc_norm (M := fun ρ w => asQ 130 (ρ 0) fun h_0 => asI .i64 (ρ 1) fun i0_1 => asI .i64 (ρ 2) fun n_2 => asI .i64 (ρ 7) fun i_7 => nx1 h_0 i0_1 n_2 i_7 w) ?_ (fun ρ w h => ?_)
    · skip
      refine reroot e0 (reroot (upd_other e1 rfl) (reroot (upd_other (upd_other e2 rfl) rfl) (reroot (upd_other (upd_other (upd_other e7 rfl) rfl) rfl) ?_)))
      refine wpc_block ?_
      refine wpc_pre2 hmix (fun ρ w => asQ 130 (ρ 0) fun h_0 => asI .i64 (ρ 1) fun i0_1 => asI .i64 (ρ 2) fun n_2 => asI .i64 (ρ 7) fun i_7 => asI .i64 (ρ 8) fun j1_8 => heap_down.j3 h_0 i0_1 n_2 i_7 j1_8 Q nx1 w) (Eq.mp (by kernel_rfl) h) ?_
      intro ρ w h
      obtain ⟨h_0, e0, h⟩ := asQ_el h
      obtain ⟨i0_1, e1, h⟩ := asI_el h
      obtain ⟨n_2, e2, h⟩ := asI_el h
      obtain ⟨i_7, e7, h⟩ := asI_el h
      obtain ⟨j1_8, e8, h⟩ := asI_el h
      refine reroot e0 (reroot (upd_other e1 rfl) (reroot (upd_other (upd_other e2 rfl) rfl) (reroot (upd_other (upd_other (upd_other e7 rfl) rfl) rfl) (reroot (upd_other (upd_other (upd_other (upd_other e8 rfl) rfl) rfl) rfl) ?_))))
      refine wpc_pre2 hmix (fun ρ w => asQ 130 (ρ 0) fun h_0 => asI .i64 (ρ 1) fun i0_1 => asI .i64 (ρ 2) fun n_2 => asI .i64 (ρ 7) fun i_7 => asI .i64 (ρ 9) fun j_9 => heap_down.j4 h_0 i0_1 n_2 i_7 j_9 Q nx1 w) (Eq.mp (by kernel_rfl) h) ?_
      intro ρ w h
      obtain ⟨h_0, e0, h⟩ := asQ_el h
      obtain ⟨i0_1, e1, h⟩ := asI_el h
      obtain ⟨n_2, e2, h⟩ := asI_el h
      obtain ⟨i_7, e7, h⟩ := asI_el h
      obtain ⟨j_9, e9, h⟩ := asI_el h
      refine reroot e0 (reroot (upd_other e1 rfl) (reroot (upd_other (upd_other e2 rfl) rfl) (reroot (upd_other (upd_other (upd_other e7 rfl) rfl) rfl) (reroot (upd_other (upd_other (upd_other (upd_other e9 rfl) rfl) rfl) rfl) ?_))))
      exact pt_sound hmix _ (Eq.mp (by kernel_rfl) h)
    · skip
      obtain ⟨h_0', e0', h⟩ := asQ_el h
      obtain ⟨i0_1', e1', h⟩ := asI_el h
      obtain ⟨n_2', e2', h⟩ := asI_el h
      obtain ⟨i_7', e7', h⟩ := asI_el h
      rw [hnx] at h
      obtain ⟨hu, hI2, hμ⟩ := h
      obtain ⟨rfl, rfl, rfl⟩ := hu
      exact ⟨i_7', ⟨e7', e0', e1', e2'⟩, hI2, hμ⟩
  · intro ρ w h
    obtain ⟨i0_1, e1, h⟩ := asI_el h
    obtain ⟨i_7, e7, h⟩ := asI_el h
    refine reroot e1 (reroot (upd_other e7 rfl) ?_)
    exact pt_sound hmix _ (Eq.mp (by kernel_rfl) h)

/-! container/heap.Push -/
def heap_Push (h_0 : Addr) (x_1 : (Nat × Value)) (Q : Value → World → Prop) (w : World) : Prop :=
  Calls Try.prog 211 ⟨[.pointer (some h_0), .iface x_1.1 x_1.2]⟩ w fun e1 w2 =>
  e1 = .returned (.tuple ⟨[]⟩) ∧
  ldL w2 h_0 fun x3 =>
  Calls Try.prog 83 ⟨[.slice x3.a x3.len x3.cap]⟩ w2 fun e4 w5 =>
  ∃ r6 : Int, e4 = .returned (.int .i64 r6) ∧
  lt (IntKind.i64.wrap (r6 - 1)) fun x7 =>
  Calls Try.prog 131 ⟨[.iface 130 (.pointer (some h_0)), .int .i64 x7]⟩ w5 fun e8 w9 =>
  e8 = .returned (.tuple ⟨[]⟩) ∧
  Q (.tuple ⟨[]⟩) w9

theorem heap_Push.ok (h_0 : Addr) (x_1 : (Nat × Value)) (Q : Value → World → Prop) (w : World) (h : heap_Push h_0 x_1 Q w) : Calls Try.prog 82 ⟨[.iface 130 (.pointer (some h_0)), .iface x_1.1 x_1.2]⟩ w (Ret Q) := by
  refine calls_of_wpc [] Try.func82 rfl rfl rfl rfl ?_
  exact pt_sound hmix _ (Eq.mp (by kernel_rfl) h)

/-! container/heap.Pop -/
def heap_Pop (h_0 : Addr) (Q : Value → World → Prop) (w : World) : Prop :=
  ldL w h_0 fun x1 =>
  Calls Try.prog 83 ⟨[.slice x1.a x1.len x1.cap]⟩ w fun e2 w3 =>
  ∃ r4 : Int, e2 = .returned (.int .i64 r4) ∧
  lt (IntKind.i64.wrap (r4 - 1)) fun x5 =>
  ldL w3 h_0 fun x6 =>
  Calls Try.prog 212 ⟨[.slice x6.a x6.len x6.cap, .int .i64 0, .int .i64 x5]⟩ w3 fun e7 w8 =>
  e7 = .returned (.tuple ⟨[]⟩) ∧
  Calls Try.prog 164 ⟨[.iface 130 (.pointer (some h_0)), .int .i64 0, .int .i64 x5]⟩ w8 fun e9 w10 =>
  ∃ r11 : Bool, e9 = .returned (.bool r11) ∧
  Calls Try.prog 210 ⟨[.pointer (some h_0)]⟩ w10 fun e12 w13 =>
  ∃ r14 : (Nat × Value), e12 = .returned (.iface r14.1 r14.2) ∧
  Q (.iface r14.1 r14.2) w13

theorem heap_Pop.ok (h_0 : Addr) (Q : Value → World → Prop) (w : World) (h : heap_Pop h_0 Q w) : Calls Try.prog 132 ⟨[.iface 130 (.pointer (some h_0))]⟩ w (Ret Q) := by
  refine calls_of_wpc [.tmp 2] Try.func132 rfl rfl rfl rfl ?_
  exact pt_sound hmix _ (Eq.mp (by kernel_rfl) h)

/-! (*trove/limit.trees).take -/
def limit_trees_take (t_0 : (Option Addr)) (Q : Value → World → Prop) (w : World) : Prop :=
  Calls Try.prog 132 ⟨[.iface 130 (.pointer t_0)]⟩ w fun e1 w2 =>
  ∃ r3 : (Nat × Value), e1 = .returned (.iface r3.1 r3.2) ∧
  eqT r3.1 134 (
  asP r3.2 fun x4 =>
  Q (.pointer x4) w2)

theorem limit_trees_take.ok (t_0 : (Option Addr)) (Q : Value → World → Prop) (w : World) (h : limit_trees_take t_0 Q w) : Calls Try.prog 84 ⟨[.pointer t_0]⟩ w (Ret Q) := by
  refine calls_of_wpc [.tmp 2] Try.func84 rfl rfl rfl rfl ?_
  exact pt_sound hmix _ (Eq.mp (by kernel_rfl) h)

/-! trove/limit.walk -/
def limit_walk (n_0 : (Option Addr)) (deep_1 : Int) (out_2 : Sl) (Q : Value → World → Prop) (w : World) : Prop :=
  nz n_0 fun a1 =>
  ldP w (Addr.add a1 2) fun x2 =>
  br (Option.isNone x2) (
  nz n_0 fun a3 =>
  ldI .i64 w (Addr.add a3 1) fun x4 =>
  lt (if (1 : Int) > deep_1 then 1 else deep_1) fun x5 =>
  ixS out_2.a out_2.len x4 1 fun a6 =>
  st w a6 (.int .i64 x5) fun w7 =>
  Q (.tuple ⟨[]⟩) w7) (
  nz n_0 fun a8 =>
  ldP w (Addr.add a8 2) fun x9 =>
  lt (IntKind.i64.wrap (deep_1 + 1)) fun x10 =>
  Calls Try.prog 85 ⟨[.pointer x9, .int .i64 x10, .slice out_2.a out_2.len out_2.cap]⟩ w fun e11 w12 =>
  e11 = .returned (.tuple ⟨[]⟩) ∧
  nz n_0 fun a13 =>
  ldP w12 (Addr.add a13 3) fun x14 =>
  lt (IntKind.i64.wrap (deep_1 + 1)) fun x15 =>
  Calls Try.prog 85 ⟨[.pointer x14, .int .i64 x15, .slice out_2.a out_2.len out_2.cap]⟩ w12 fun e16 w17 =>
  e16 = .returned (.tuple ⟨[]⟩) ∧
  Q (.tuple ⟨[]⟩) w17)

theorem limit_walk.ok (n_0 : (Option Addr)) (deep_1 : Int) (out_2 : Sl) (Q : Value → World → Prop) (w : World) (h : limit_walk n_0 deep_1 out_2 Q w) : Calls Try.prog 85 ⟨[.pointer n_0, .int .i64 deep_1, .slice out_2.a out_2.len out_2.cap]⟩ w (Ret Q) := by
  refine calls_of_wpc [] Try.func85 rfl rfl rfl rfl ?_
  exact pt_sound hmix _ (Eq.mp (by kernel_rfl) h)

/-! trove/limit.Plain -/
def limit_Plain.j5 (t4 : Sl) (t5 : (Option Addr)) (Q : Value → World → Prop) (w : World) : Prop :=
  Calls Try.prog 84 ⟨[.pointer t5]⟩ w fun e1 w2 =>
  ∃ r3 : (Option Addr), e1 = .returned (.pointer r3) ∧
  Calls Try.prog 85 ⟨[.pointer r3, .int .i64 0, .slice t4.a t4.len t4.cap]⟩ w2 fun e4 w5 =>
  e4 = .returned (.tuple ⟨[]⟩) ∧
  Q (.tuple ⟨[.slice t4.a t4.len t4.cap, .int .i64 0]⟩) w5

def limit_Plain.b1 (t4 : Sl) (t5 : (Option Addr)) (Q : Value → World → Prop) (nx1 : Sl → (Option Addr) → World → Prop) (w : World) : Prop :=
  nz t5 fun a6 =>
  ldL w a6 fun x7 =>
  Calls Try.prog 83 ⟨[.slice x7.a x7.len x7.cap]⟩ w fun e8 w9 =>
  ∃ r10 : Int, e8 = .returned (.int .i64 r10) ∧
  br (decide ((r10 : Int) > 1)) (
  Calls Try.prog 84 ⟨[.pointer t5]⟩ w9 fun e11 w12 =>
  ∃ r13 : (Option Addr), e11 = .returned (.pointer r13) ∧
  Calls Try.prog 84 ⟨[.pointer t5]⟩ w12 fun e14 w15 =>
  ∃ r16 : (Option Addr), e14 = .returned (.pointer r16) ∧
  lt (World.drew w15) fun w17 =>
  nz r13 fun a18 =>
  ldI .i64 w17 (Addr.add a18 0) fun x19 =>
  nz r16 fun a20 =>
  ldI .i64 w17 (Addr.add a20 0) fun x21 =>
  lt (IntKind.i64.wrap (x19 + x21)) fun x22 =>
  lt (⟨World.heapSize w17, 0, none⟩ : Addr) fun a23 =>
  lt (World.alloc w17 (.cells (⟨[.int .i64 x22, .int .i64 0, .pointer r13, .pointer r16]⟩ : Array Value) 136)) fun w24 =>
  Calls Try.prog 82 ⟨[.iface 130 (.pointer t5), .iface 134 (.pointer (some a23))]⟩ w24 fun e25 w26 =>
  e25 = .returned (.tuple ⟨[]⟩) ∧
  nx1 t4 t5 w26) (
  limit_Plain.j5 t4 t5 Q w9)

def limit_Plain.l1 (t4 : Sl) (t5 : (Option Addr)) (Q : Value → World → Prop) (w : World) : Prop :=
  ∃ (I : World → Prop) (μ : World → Nat), I  w ∧ ∀ w : World, I  w → limit_Plain.b1 t4 t5 Q (fun t4' t5' w' => (t4' = t4 ∧ t5' = t5) ∧ I  w' ∧ μ  w' < μ  w) w

def limit_Plain.j4 (t4 : Sl) (t5 : (Option Addr)) (Q : Value → World → Prop) (w : World) : Prop :=
  limit_Plain.l1 t4 t5 Q w

def limit_Plain.j3 (t4 : Sl) (t5 : (Option Addr)) (Q : Value → World → Prop) (w : World) : Prop :=
  nz t5 fun a27 =>
  ldL w a27 fun x28 =>
  Calls Try.prog 83 ⟨[.slice x28.a x28.len x28.cap]⟩ w fun e29 w30 =>
  ∃ r31 : Int, e29 = .returned (.int .i64 r31) ∧
  br ((r31 : Int) == 0) (
  Q (.tuple ⟨[.slice t4.a t4.len t4.cap, .int .i64 0]⟩) w30) (
  limit_Plain.j4 t4 t5 Q w30)

def limit_Plain.b2 (d_0 : Sl) (t4 : Sl) (t5 : (Option Addr)) (t18 : Sl) (t19 : Int) (t20 : Int) (Q : Value → World → Prop) (nx2 : Sl → Sl → (Option Addr) → Sl → Int → Int → World → Prop) (w : World) : Prop :=
  br (decide ((t20 : Int) < t19)) (
  ixS t18.a t18.len t20 1 fun a32 =>
  ldI .i64 w a32 fun x33 =>
  ixS d_0.a d_0.len x33 1 fun a34 =>
  ldI .i64 w a34 fun x35 =>
  lt (⟨World.heapSize w, 0, none⟩ : Addr) fun a36 =>
  lt (World.alloc w (.cells (⟨[.int .i64 x35, .int .i64 x33, .pointer none, .pointer none]⟩ : Array Value) 136)) fun w37 =>
  Calls Try.prog 82 ⟨[.iface 130 (.pointer t5), .iface 134 (.pointer (some a36))]⟩ w37 fun e38 w39 =>
  e38 = .returned (.tuple ⟨[]⟩) ∧
  lt (IntKind.i64.wrap (t20 + 1)) fun x40 =>
  nx2 d_0 t4 t5 t18 t19 x40 w39) (
  limit_Plain.j3 t4 t5 Q w)

def limit_Plain.l2 (d_0 : Sl) (t4 : Sl) (t5 : (Option Addr)) (t18 : Sl) (t19 : Int) (t20 : Int) (Q : Value → World → Prop) (w : World) : Prop :=
  ∃ (I : Int → World → Prop) (μ : Int → World → Nat), I t20 w ∧ ∀ t20 : Int, ∀ w : World, I t20 w → limit_Plain.b2 d_0 t4 t5 t18 t19 t20 Q (fun d_0' t4' t5' t18' t19' t20' w' => (d_0' = d_0 ∧ t4' = t4 ∧ t5' = t5 ∧ t18' = t18 ∧ t19' = t19) ∧ I t20' w' ∧ μ t20' w' < μ t20 w) w

def limit_Plain.j6 (d_0 : Sl) (t4 : Sl) (t5 : (Option Addr)) (t18 : Sl) (t19 : Int) (t20 : Int) (Q : Value → World → Prop) (w : World) : Prop :=
  limit_Plain.l2 d_0 t4 t5 t18 t19 t20 Q w

def limit_Plain.j2 (d_0 : Sl) (t4 : Sl) (t5 : (Option Addr)) (Q : Value → World → Prop) (w : World) : Prop :=
  Calls Try.prog 37 ⟨[.slice d_0.a d_0.len d_0.cap]⟩ w fun e41 w42 =>
  ∃ r43 : Sl, e41 = .returned (.slice r43.a r43.len r43.cap) ∧
  limit_Plain.j6 d_0 t4 t5 r43 ((r43.len : Nat) : Int) 0 Q w42

def limit_Plain.j1 (d_0 : Sl) (Q : Value → World → Prop) (w : World) : Prop :=
  mkK Try.prog 3 w ((d_0.len : Nat) : Int) ((d_0.len : Nat) : Int) fun s44 w45 =>
  lt (⟨World.heapSize w45, 0, none⟩ : Addr) fun a46 =>
  lt (World.alloc w45 (.cells ⟨[]⟩ 134)) fun w47 =>
  lt (⟨World.heapSize w47, 0, none⟩ : Addr) fun a48 =>
  lt (World.alloc w47 (.cells ⟨[.slice (some a46) 0 0]⟩ 132)) fun w49 =>
  limit_Plain.j2 d_0 s44 (some a48) Q w49

def limit_Plain (d_0 : Sl) (Q : Value → World → Prop) (w : World) : Prop :=
  Calls Try.prog 36 ⟨[.slice d_0.a d_0.len d_0.cap]⟩ w fun e50 w51 =>
  ∃ r52 : Bool, e50 = .returned (.bool r52) ∧
  br r52 (
  Q (.tuple ⟨[.slice none 0 0, .int .i64 1]⟩) w51) (
  limit_Plain.j1 d_0 Q w51)

theorem limit_Plain.ok (d_0 : Sl) (Q : Value → World → Prop) (w : World) (h : limit_Plain d_0 Q w) : Calls Try.prog 35 ⟨[.slice d_0.a d_0.len d_0.cap]⟩ w (Ret Q) := by
  refine calls_of_wpc [.tmp 2, .tmp 3] Try.func35 rfl rfl rfl rfl ?_
  refine wpc_pre2 hmix (fun ρ w => asL (ρ 0) fun d_0 => limit_Plain.j1 d_0 Q w) (Eq.mp (by kernel_rfl) h) ?_
  intro ρ w h
  obtain ⟨d_0, e0, h⟩ := asL_el h
  refine reroot e0 ?_
  refine wpc_pre2 hmix (fun ρ w => asL (ρ 0) fun d_0 => asL (ρ 4) fun t4 => asP (ρ 5) fun t5 => limit_Plain.j2 d_0 t4 t5 Q w) (Eq.mp (by kernel_rfl) h) ?_
  intro ρ w h
  obtain ⟨d_0, e0, h⟩ := asL_el h
  obtain ⟨t4, e4, h⟩ := asL_el h
  obtain ⟨t5, e5, h⟩ := asP_el h
  refine reroot e0 (reroot (upd_other e4 rfl) (reroot (upd_other (upd_other e5 rfl) rfl) ?_))
  refine wpc_seq (fun ρ w => asL (ρ 4) fun t4 => asP (ρ 5) fun t5 => limit_Plain.j3 t4 t5 Q w) ?_ ?_
  · skip
    refine wpc_seq (fun ρ w => asL (ρ 0) fun d_0 => asL (ρ 4) fun t4 => asP (ρ 5) fun t5 => asL (ρ 18) fun t18 => asI .i64 (ρ 19) fun t19 => asI .i64 (ρ 20) fun t20 => limit_Plain.j6 d_0 t4 t5 t18 t19 t20 Q w) ?_ ?_
    · skip
      exact pt_sound hmix _ (Eq.mp (by kernel_rfl) h)
    · intro ρ w h
      obtain ⟨d_0, e0, h⟩ := asL_el h
      obtain ⟨t4, e4, h⟩ := asL_el h
      obtain ⟨t5, e5, h⟩ := asP_el h
      obtain ⟨t18, e18, h⟩ := asL_el h
      obtain ⟨t19, e19, h⟩ := asI_el h
      obtain ⟨t20, e20, h⟩ := asI_el h
      refine reroot e0 (reroot (upd_other e4 rfl) (reroot (upd_other (upd_other e5 rfl) rfl) (reroot (upd_other (upd_other (upd_other e18 rfl) rfl) rfl) (reroot (upd_other (upd_other (upd_other (upd_other e19 rfl) rfl) rfl) rfl) (reroot (upd_other (upd_other (upd_other (upd_other (upd_other e20 rfl) rfl) rfl) rfl) rfl) ?_)))))
      refine wpc_block ?_
      obtain ⟨I, μ, hI, hr⟩ := h
      refine wpc_loopS (α := Int) (fun s ρ => ρ 20 = .int .i64 s ∧ ρ 0 = .slice d_0.a d_0.len d_0.cap ∧ ρ 4 = .slice t4.a t4.len t4.cap ∧ ρ 5 = .pointer t5 ∧ ρ 18 = .slice t18.a t18.len t18.cap ∧ ρ 19 = .int .i64 t19) (fun s w => I s w) (fun s w => μ s w) t20 ⟨rfl, rfl, rfl, rfl, rfl, rfl⟩ hI ?_
      rintro t20 ρ w ⟨e20, e0, e4, e5, e18, e19⟩ hI
      have h := hr t20 w hI
      clear hr
      obtain ⟨nx2, hnx⟩ : ∃ nx : Sl → Sl → (Option Addr) → Sl → Int → Int → World → Prop, nx = (fun d_0' t4' t5' t18' t19' t20' w' => (d_0' = d_0 ∧ t4' = t4 ∧ t5' = t5 ∧ t18' = t18 ∧ t19' = t19) ∧ I t20' w' ∧ μ t20' w' < μ t20 w) := ⟨_, rfl⟩
      rw [← hnx] at h
      refine wpc_norm (M := fun ρ w => asL (ρ 0) fun d_0 => asL (ρ 4) fun t4 => asP (ρ 5) fun t5 => asL (ρ 18) fun t18 => asI .i64 (ρ 19) fun t19 => asI .i64 (ρ 20) fun t20 => nx2 d_0 t4 t5 t18 t19 t20 w) ?_ (fun ρ w h => ?_)
      · skip
        refine reroot e0 (reroot (upd_other e4 rfl) (reroot (upd_other (upd_other e5 rfl) rfl) (reroot (upd_other (upd_other (upd_other e18 rfl) rfl) rfl) (reroot (upd_other (upd_other (upd_other (upd_other e19 rfl) rfl) rfl) rfl) (reroot (upd_other (upd_other (upd_other (upd_other (upd_other e20 rfl) rfl) rfl) rfl) rfl) ?_)))))
        exact pt_sound hmix _ (Eq.mp (by kernel_rfl) h)
      · skip
        obtain ⟨d_0', e0', h⟩ := asL_el h
        obtain ⟨t4', e4', h⟩ := asL_el h
        obtain ⟨t5', e5', h⟩ := asP_el h
        obtain ⟨t18', e18', h⟩ := asL_el h
        obtain ⟨t19', e19', h⟩ := asI_el h
        obtain ⟨t20', e20', h⟩ := asI_el h
        rw [hnx] at h
        obtain ⟨hu, hI2, hμ⟩ := h
        obtain ⟨rfl, rfl, rfl, rfl, rfl⟩ := hu
        exact ⟨t20', ⟨e20', e0', e4', e5', e18', e19'⟩, hI2, hμ⟩
  · intro ρ w h
    obtain ⟨t4, e4, h⟩ := asL_el h
    obtain ⟨t5, e5, h⟩ := asP_el h
    refine reroot e4 (reroot (upd_other e5 rfl) ?_)
    refine wpc_seq (fun ρ w => asL (ρ 4) fun t4 => asP (ρ 5) fun t5 => limit_Plain.j4 t4 t5 Q w) ?_ ?_
    · skip
      exact pt_sound hmix _ (Eq.mp (by kernel_rfl) h)
    · intro ρ w h
      obtain ⟨t4, e4, h⟩ := asL_el h
      obtain ⟨t5, e5, h⟩ := asP_el h
      refine reroot e4 (reroot (upd_other e5 rfl) ?_)
      refine wpc_seq (fun ρ w => asL (ρ 4) fun t4 => asP (ρ 5) fun t5 => limit_Plain.j5 t4 t5 Q w) ?_ ?_
      · skip
        refine wpc_block ?_
        obtain ⟨I, μ, hI, hr⟩ := h
        refine wpc_loopS (α := Unit) (fun s ρ => ρ 4 = .slice t4.a t4.len t4.cap ∧ ρ 5 = .pointer t5) (fun s w => I  w) (fun s w => μ  w) () ⟨rfl, rfl⟩ hI ?_
        rintro ⟨⟩ ρ w ⟨e4, e5⟩ hI
        have h := hr  w hI
        clear hr
        obtain ⟨nx1, hnx⟩ : ∃ nx : Sl → (Option Addr) → World → Prop, nx = (fun t4' t5' w' => (t4' = t4 ∧ t5' = t5) ∧ I  w' ∧ μ  w' < μ  w) := ⟨_, rfl⟩
        rw [← hnx] at h
        refine wpc_norm (M := fun ρ w => asL (ρ 4) fun t4 => asP (ρ 5) fun t5 => nx1 t4 t5 w) ?_ (fun ρ w h => ?_)
        · skip
          refine reroot e4 (reroot (upd_other e5 rfl) ?_)
          exact pt_sound hmix _ (Eq.mp (by kernel_rfl) h)
        · skip
          obtain ⟨t4', e4', h⟩ := asL_el h
          obtain ⟨t5', e5', h⟩ := asP_el h
          rw [hnx] at h
          obtain ⟨hu, hI2, hμ⟩ := h
          obtain ⟨rfl, rfl⟩ := hu
          exact ⟨(), ⟨e4', e5'⟩, hI2, hμ⟩
      · intro ρ w h
        obtain ⟨t4, e4, h⟩ := asL_el h
        obtain ⟨t5, e5, h⟩ := asP_el h
        refine reroot e4 (reroot (upd_other e5 rfl) ?_)
        exact pt_sound hmix _ (Eq.mp (by kernel_rfl) h)

end Go.Proofs.Ythdmmmfgjmmelaa
