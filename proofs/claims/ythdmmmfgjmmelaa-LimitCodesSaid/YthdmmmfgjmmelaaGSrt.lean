/- PRINTED BY gen.py (own work): what calls come to, and the proofs of it. -/
import Derived.Test.YthdmmmfgjmmelaaVcJ
import Derived.Test.YthdmmmfgjmmelaaProg
namespace Go.Proofs.Ythdmmmfgjmmelaa
open Go Go.Proofs
set_option linter.unusedVariables false
set_option maxRecDepth 100000

/-! trove/limit.Lengths$1 -/
def limit_Lengths_1 (a_0 : (Array Value)) (b_1 : (Array Value)) (Q : Value → World → Prop) (w : World) : Prop :=
  lt (⟨World.heapSize w, 0, none⟩ : Addr) fun a1 =>
  lt (World.alloc w (.cells a_0 80)) fun w2 =>
  lt (⟨World.heapSize w2, 0, none⟩ : Addr) fun a3 =>
  lt (World.alloc w2 (.cells b_1 80)) fun w4 =>
  ldI .i64 w4 (Addr.add a1 0) fun x5 =>
  ldI .i64 w4 (Addr.add a3 0) fun x6 =>
  Calls Try.prog 42 ⟨[.int .i64 x5, .int .i64 x6]⟩ w4 fun e7 w8 =>
  ∃ r9 : Int, e7 = .returned (.int .i64 r9) ∧
  Q (.int .i64 r9) w8

theorem limit_Lengths_1.ok (a_0 : (Array Value)) (b_1 : (Array Value)) (Q : Value → World → Prop) (w : World) (h : limit_Lengths_1 a_0 b_1 Q w) : Calls Try.prog 41 ⟨[.agg a_0, .agg b_1]⟩ w (Ret Q) := by
  refine calls_of_wpc [.tmp 4] Try.func41 rfl rfl rfl rfl ?_
  exact pt_sound hmix _ (Eq.mp (by kernel_rfl) h)

/-! cmp.isNaN[int] -/
def cmp_isNaN_int (x_0 : Int) (Q : Value → World → Prop) (w : World) : Prop :=
  Q (.bool ((x_0 : Int) != x_0)) w

theorem cmp_isNaN_int.ok (x_0 : Int) (Q : Value → World → Prop) (w : World) (h : cmp_isNaN_int x_0 Q w) : Calls Try.prog 90 ⟨[.int .i64 x_0]⟩ w (Ret Q) := by
  refine calls_of_wpc [.tmp 2] Try.func90 rfl rfl rfl rfl ?_
  exact pt_sound hmix _ (Eq.mp (by kernel_rfl) h)

/-! cmp.Compare[int] -/
def cmp_Compare_int (x_0 : Int) (y_1 : Int) (Q : Value → World → Prop) (w : World) : Prop :=
  Calls Try.prog 90 ⟨[.int .i64 x_0]⟩ w fun e1 w2 =>
  ∃ r3 : Bool, e1 = .returned (.bool r3) ∧
  Calls Try.prog 90 ⟨[.int .i64 y_1]⟩ w2 fun e4 w5 =>
  ∃ r6 : Bool, e4 = .returned (.bool r6) ∧
  br r3 (
  br r6 (
  Q (.int .i64 0) w5) (
  Q (.int .i64 (-1)) w5)) (
  br r6 (
  Q (.int .i64 1) w5) (
  br (decide ((x_0 : Int) < y_1)) (
  Q (.int .i64 (-1)) w5) (
  br (decide ((x_0 : Int) > y_1)) (
  Q (.int .i64 1) w5) (
  Q (.int .i64 0) w5))))

theorem cmp_Compare_int.ok (x_0 : Int) (y_1 : Int) (Q : Value → World → Prop) (w : World) (h : cmp_Compare_int x_0 y_1 Q w) : Calls Try.prog 42 ⟨[.int .i64 x_0, .int .i64 y_1]⟩ w (Ret Q) := by
  refine calls_of_wpc [.tmp 4] Try.func42 rfl rfl rfl rfl ?_
  exact pt_sound hmix _ (Eq.mp (by kernel_rfl) h)

/-! slices.insertionSortCmpFunc[trove/limit.pack] -/
def slices_insertionSortCmpFunc_limit_pack.j3 (data_0 : Sl) (a_1 : Int) (b_2 : Int) (i_8 : Int) (Q : Value → World → Prop) (nx1 : Sl → Int → Int → Int → World → Prop) (w : World) : Prop :=
  lt (IntKind.i64.wrap (i_8 + 1)) fun x1 =>
  nx1 data_0 a_1 b_2 x1 w

def slices_insertionSortCmpFunc_limit_pack.b2 (data_0 : Sl) (a_1 : Int) (b_2 : Int) (i_8 : Int) (j_9 : Int) (Q : Value → World → Prop) (nx1 : Sl → Int → Int → Int → World → Prop) (nx2 : Sl → Int → Int → Int → Int → World → Prop) (w : World) : Prop :=
  lt (World.drew w) fun w2 =>
  br (decide ((j_9 : Int) > a_1)) (
  ixS data_0.a data_0.len j_9 2 fun a3 =>
  ldA w2 a3 2 fun c4 =>
  lt (IntKind.i64.wrap (j_9 - 1)) fun x5 =>
  ixS data_0.a data_0.len x5 2 fun a6 =>
  ldA w2 a6 2 fun c7 =>
  Calls Try.prog 41 ⟨[.agg c4, .agg c7]⟩ w2 fun e8 w9 =>
  ∃ r10 : Int, e8 = .returned (.int .i64 r10) ∧
  br (decide ((r10 : Int) < 0)) (
  lt (World.drew w9) fun w11 =>
  lt (IntKind.i64.wrap (j_9 - 1)) fun x12 =>
  lt (IntKind.i64.wrap (j_9 - 1)) fun x13 =>
  ixS data_0.a data_0.len x13 2 fun a14 =>
  ldA w11 a14 2 fun c15 =>
  ixS data_0.a data_0.len j_9 2 fun a16 =>
  ldA w11 a16 2 fun c17 =>
  ixS data_0.a data_0.len j_9 2 fun a18 =>
  (c15).size = 2 ∧
  stA w11 a18 c15 fun w19 =>
  ixS data_0.a data_0.len x12 2 fun a20 =>
  (c17).size = 2 ∧
  stA w19 a20 c17 fun w21 =>
  lt (IntKind.i64.wrap (j_9 - 1)) fun x22 =>
  nx2 data_0 a_1 b_2 i_8 x22 w21) (
  slices_insertionSortCmpFunc_limit_pack.j3 data_0 a_1 b_2 i_8 Q nx1 w9)) (
  slices_insertionSortCmpFunc_limit_pack.j3 data_0 a_1 b_2 i_8 Q nx1 w2)

def slices_insertionSortCmpFunc_limit_pack.l2 (data_0 : Sl) (a_1 : Int) (b_2 : Int) (i_8 : Int) (j_9 : Int) (Q : Value → World → Prop) (nx1 : Sl → Int → Int → Int → World → Prop) (w : World) : Prop :=
  ∃ (I : Int → World → Prop) (μ : Int → World → Nat), I j_9 w ∧ ∀ j_9 : Int, ∀ w : World, I j_9 w → slices_insertionSortCmpFunc_limit_pack.b2 data_0 a_1 b_2 i_8 j_9 Q nx1 (fun data_0' a_1' b_2' i_8' j_9' w' => (data_0' = data_0 ∧ a_1' = a_1 ∧ b_2' = b_2 ∧ i_8' = i_8) ∧ I j_9' w' ∧ μ j_9' w' < μ j_9 w) w

def slices_insertionSortCmpFunc_limit_pack.j4 (data_0 : Sl) (a_1 : Int) (b_2 : Int) (i_8 : Int) (j_9 : Int) (Q : Value → World → Prop) (nx1 : Sl → Int → Int → Int → World → Prop) (w : World) : Prop :=
  slices_insertionSortCmpFunc_limit_pack.l2 data_0 a_1 b_2 i_8 j_9 Q nx1 w

def slices_insertionSortCmpFunc_limit_pack.j2 (data_0 : Sl) (a_1 : Int) (b_2 : Int) (i_8 : Int) (Q : Value → World → Prop) (nx1 : Sl → Int → Int → Int → World → Prop) (w : World) : Prop :=
  slices_insertionSortCmpFunc_limit_pack.j4 data_0 a_1 b_2 i_8 i_8 Q nx1 w

def slices_insertionSortCmpFunc_limit_pack.b1 (data_0 : Sl) (a_1 : Int) (b_2 : Int) (i_8 : Int) (Q : Value → World → Prop) (nx1 : Sl → Int → Int → Int → World → Prop) (w : World) : Prop :=
  br (decide ((i_8 : Int) < b_2)) (
  slices_insertionSortCmpFunc_limit_pack.j2 data_0 a_1 b_2 i_8 Q nx1 w) (
  Q (.tuple ⟨[]⟩) w)

def slices_insertionSortCmpFunc_limit_pack.l1 (data_0 : Sl) (a_1 : Int) (b_2 : Int) (i_8 : Int) (Q : Value → World → Prop) (w : World) : Prop :=
  ∃ (I : Int → World → Prop) (μ : Int → World → Nat), I i_8 w ∧ ∀ i_8 : Int, ∀ w : World, I i_8 w → slices_insertionSortCmpFunc_limit_pack.b1 data_0 a_1 b_2 i_8 Q (fun data_0' a_1' b_2' i_8' w' => (data_0' = data_0 ∧ a_1' = a_1 ∧ b_2' = b_2) ∧ I i_8' w' ∧ μ i_8' w' < μ i_8 w) w

def slices_insertionSortCmpFunc_limit_pack.j1 (data_0 : Sl) (a_1 : Int) (b_2 : Int) (i_8 : Int) (Q : Value → World → Prop) (w : World) : Prop :=
  slices_insertionSortCmpFunc_limit_pack.l1 data_0 a_1 b_2 i_8 Q w

def slices_insertionSortCmpFunc_limit_pack (data_0 : Sl) (a_1 : Int) (b_2 : Int) (Q : Value → World → Prop) (w : World) : Prop :=
  lt (IntKind.i64.wrap (a_1 + 1)) fun x23 =>
  slices_insertionSortCmpFunc_limit_pack.j1 data_0 a_1 b_2 x23 Q w

theorem slices_insertionSortCmpFunc_limit_pack.ok (data_0 : Sl) (a_1 : Int) (b_2 : Int) (Q : Value → World → Prop) (w : World) (h : slices_insertionSortCmpFunc_limit_pack data_0 a_1 b_2 Q w) : Calls Try.prog 135 ⟨[.slice data_0.a data_0.len data_0.cap, .int .i64 a_1, .int .i64 b_2, .func (.func 41) ⟨[]⟩ ⟨[]⟩]⟩ w (Ret Q) := by
  refine calls_of_wpc [] Try.func135 rfl rfl rfl rfl ?_
  refine wpc_seq (fun ρ w => asL (ρ 0) fun data_0 => asI .i64 (ρ 1) fun a_1 => asI .i64 (ρ 2) fun b_2 => asC0 41 (ρ 3) <| asI .i64 (ρ 8) fun i_8 => slices_insertionSortCmpFunc_limit_pack.j1 data_0 a_1 b_2 i_8 Q w) ?_ ?_
  · skip
    exact pt_sound hmix _ (Eq.mp (by kernel_rfl) h)
  · intro ρ w h
    obtain ⟨data_0, e0, h⟩ := asL_el h
    obtain ⟨a_1, e1, h⟩ := asI_el h
    obtain ⟨b_2, e2, h⟩ := asI_el h
    obtain ⟨e3, h⟩ := asC0_el h
    obtain ⟨i_8, e8, h⟩ := asI_el h
    refine reroot e0 (reroot (upd_other e1 rfl) (reroot (upd_other (upd_other e2 rfl) rfl) (reroot (upd_other (upd_other (upd_other e3 rfl) rfl) rfl) (reroot (upd_other (upd_other (upd_other (upd_other e8 rfl) rfl) rfl) rfl) ?_))))
    refine wpc_block ?_
    obtain ⟨I, μ, hI, hr⟩ := h
    refine wpc_loopS (α := Int) (fun s ρ => ρ 8 = .int .i64 s ∧ ρ 0 = .slice data_0.a data_0.len data_0.cap ∧ ρ 1 = .int .i64 a_1 ∧ ρ 2 = .int .i64 b_2 ∧ ρ 3 = .func (.func 41) ⟨[]⟩ ⟨[]⟩) (fun s w => I s w) (fun s w => μ s w) i_8 ⟨rfl, rfl, rfl, rfl, rfl⟩ hI ?_
    rintro i_8 ρ w ⟨e8, e0, e1, e2, e3⟩ hI
    have h := hr i_8 w hI
    clear hr
    obtain ⟨nx1, hnx⟩ : ∃ nx : Sl → Int → Int → Int → World → Prop, nx = (fun data_0' a_1' b_2' i_8' w' => (data_0' = data_0 ∧ a_1' = a_1 ∧ b_2' = b_2) ∧ I i_8' w' ∧ μ i_8' w' < μ i_8 w) := ⟨_, rfl⟩
    rw [← hnx] at h
    refine wpc_norm (M := fun ρ w => asL (ρ 0) fun data_0 => asI .i64 (ρ 1) fun a_1 => asI .i64 (ρ 2) fun b_2 => asC0 41 (ρ 3) <| asI .i64 (ρ 8) fun i_8 => nx1 data_0 a_1 b_2 i_8 w) ?_ (fun ρ w h => ?_)
    · skip
      refine reroot e0 (reroot (upd_other e1 rfl) (reroot (upd_other (upd_other e2 rfl) rfl) (reroot (upd_other (upd_other (upd_other e3 rfl) rfl) rfl) (reroot (upd_other (upd_other (upd_other (upd_other e8 rfl) rfl) rfl) rfl) ?_))))
      refine wpc_seq (fun ρ w => asL (ρ 0) fun data_0 => asI .i64 (ρ 1) fun a_1 => asI .i64 (ρ 2) fun b_2 => asC0 41 (ρ 3) <| asI .i64 (ρ 8) fun i_8 => slices_insertionSortCmpFunc_limit_pack.j2 data_0 a_1 b_2 i_8 Q nx1 w) ?_ ?_
      · skip
        exact pt_sound hmix _ (Eq.mp (by kernel_rfl) h)
      · intro ρ w h
        obtain ⟨data_0, e0, h⟩ := asL_el h
        obtain ⟨a_1, e1, h⟩ := asI_el h
        obtain ⟨b_2, e2, h⟩ := asI_el h
        obtain ⟨e3, h⟩ := asC0_el h
        obtain ⟨i_8, e8, h⟩ := asI_el h
        refine reroot e0 (reroot (upd_other e1 rfl) (reroot (upd_other (upd_other e2 rfl) rfl) (reroot (upd_other (upd_other (upd_other e3 rfl) rfl) rfl) (reroot (upd_other (upd_other (upd_other (upd_other e8 rfl) rfl) rfl) rfl) ?_))))
        refine wpc_seq (fun ρ w => asL (ρ 0) fun data_0 => asI .i64 (ρ 1) fun a_1 => asI .i64 (ρ 2) fun b_2 => asC0 41 (ρ 3) <| asI .i64 (ρ 8) fun i_8 => slices_insertionSortCmpFunc_limit_pack.j3 data_0 a_1 b_2 i_8 Q nx1 w) ?_ ?_
        · skip
          refine wpc_block ?_
          refine wpc_seq (fun ρ w => asL (ρ 0) fun data_0 => asI .i64 (ρ 1) fun a_1 => asI .i64 (ρ 2) fun b_2 => asC0 41 (ρ 3) <| asI .i64 (ρ 8) fun i_8 => asI .i64 (ρ 9) fun j_9 => slices_insertionSortCmpFunc_limit_pack.j4 data_0 a_1 b_2 i_8 j_9 Q nx1 w) ?_ ?_
          · skip
            exact pt_sound hmix _ (Eq.mp (by kernel_rfl) h)
          · intro ρ w h
            obtain ⟨data_0, e0, h⟩ := asL_el h
            obtain ⟨a_1, e1, h⟩ := asI_el h
            obtain ⟨b_2, e2, h⟩ := asI_el h
            obtain ⟨e3, h⟩ := asC0_el h
            obtain ⟨i_8, e8, h⟩ := asI_el h
            obtain ⟨j_9, e9, h⟩ := asI_el h
            refine reroot e0 (reroot (upd_other e1 rfl) (reroot (upd_other (upd_other e2 rfl) rfl) (reroot (upd_other (upd_other (upd_other e3 rfl) rfl) rfl) (reroot (upd_other (upd_other (upd_other (upd_other e8 rfl) rfl) rfl) rfl) (reroot (upd_other (upd_other (upd_other (upd_other (upd_other e9 rfl) rfl) rfl) rfl) rfl) ?_)))))
            refine wpc_block ?_
            obtain ⟨I, μ, hI, hr⟩ := h
            refine wpc_loopS (α := Int) (fun s ρ => ρ 9 = .int .i64 s ∧ ρ 0 = .slice data_0.a data_0.len data_0.cap ∧ ρ 1 = .int .i64 a_1 ∧ ρ 2 = .int .i64 b_2 ∧ ρ 3 = .func (.func 41) ⟨[]⟩ ⟨[]⟩ ∧ ρ 8 = .int .i64 i_8) (fun s w => I s w) (fun s w => μ s w) j_9 ⟨rfl, rfl, rfl, rfl, rfl, rfl⟩ hI ?_
            rintro j_9 ρ w ⟨e9, e0, e1, e2, e3, e8⟩ hI
            have h := hr j_9 w hI
            clear hr
            obtain ⟨nx2, hnx⟩ : ∃ nx : Sl → Int → Int → Int → Int → World → Prop, nx = (fun data_0' a_1' b_2' i_8' j_9' w' => (data_0' = data_0 ∧ a_1' = a_1 ∧ b_2' = b_2 ∧ i_8' = i_8) ∧ I j_9' w' ∧ μ j_9' w' < μ j_9 w) := ⟨_, rfl⟩
            rw [← hnx] at h
            refine wpc_norm (M := fun ρ w => asL (ρ 0) fun data_0 => asI .i64 (ρ 1) fun a_1 => asI .i64 (ρ 2) fun b_2 => asC0 41 (ρ 3) <| asI .i64 (ρ 8) fun i_8 => asI .i64 (ρ 9) fun j_9 => nx2 data_0 a_1 b_2 i_8 j_9 w) ?_ (fun ρ w h => ?_)
            · skip
              refine reroot e0 (reroot (upd_other e1 rfl) (reroot (upd_other (upd_other e2 rfl) rfl) (reroot (upd_other (upd_other (upd_other e3 rfl) rfl) rfl) (reroot (upd_other (upd_other (upd_other (upd_other e8 rfl) rfl) rfl) rfl) (reroot (upd_other (upd_other (upd_other (upd_other (upd_other e9 rfl) rfl) rfl) rfl) rfl) ?_)))))
              exact pt_sound hmix _ (Eq.mp (by kernel_rfl) h)
            · skip
              obtain ⟨data_0', e0', h⟩ := asL_el h
              obtain ⟨a_1', e1', h⟩ := asI_el h
              obtain ⟨b_2', e2', h⟩ := asI_el h
              obtain ⟨e3', h⟩ := asC0_el h
              obtain ⟨i_8', e8', h⟩ := asI_el h
              obtain ⟨j_9', e9', h⟩ := asI_el h
              rw [hnx] at h
              obtain ⟨hu, hI2, hμ⟩ := h
              obtain ⟨rfl, rfl, rfl, rfl⟩ := hu
              exact ⟨j_9', ⟨e9', e0', e1', e2', e3', e8'⟩, hI2, hμ⟩
        · intro ρ w h
          obtain ⟨data_0, e0, h⟩ := asL_el h
          obtain ⟨a_1, e1, h⟩ := asI_el h
          obtain ⟨b_2, e2, h⟩ := asI_el h
          obtain ⟨e3, h⟩ := asC0_el h
          obtain ⟨i_8, e8, h⟩ := asI_el h
          refine reroot e0 (reroot (upd_other e1 rfl) (reroot (upd_other (upd_other e2 rfl) rfl) (reroot (upd_other (upd_other (upd_other e3 rfl) rfl) rfl) (reroot (upd_other (upd_other (upd_other (upd_other e8 rfl) rfl) rfl) rfl) ?_))))
          exact pt_sound hmix _ (Eq.mp (by kernel_rfl) h)
    · skip
      obtain ⟨data_0', e0', h⟩ := asL_el h
      obtain ⟨a_1', e1', h⟩ := asI_el h
      obtain ⟨b_2', e2', h⟩ := asI_el h
      obtain ⟨e3', h⟩ := asC0_el h
      obtain ⟨i_8', e8', h⟩ := asI_el h
      rw [hnx] at h
      obtain ⟨hu, hI2, hμ⟩ := h
      obtain ⟨rfl, rfl, rfl⟩ := hu
      exact ⟨i_8', ⟨e8', e0', e1', e2', e3'⟩, hI2, hμ⟩

/-! slices.swapRangeCmpFunc[trove/limit.pack] -/
def slices_swapRangeCmpFunc_limit_pack.b1 (data_0 : Sl) (a_1 : Int) (b_2 : Int) (n_3 : Int) (i_10 : Int) (Q : Value → World → Prop) (nx1 : Sl → Int → Int → Int → Int → World → Prop) (w : World) : Prop :=
  br (decide ((i_10 : Int) < n_3)) (
  lt (World.drew w) fun w1 =>
  lt (IntKind.i64.wrap (a_1 + i_10)) fun x2 =>
  lt (IntKind.i64.wrap (b_2 + i_10)) fun x3 =>
  lt (IntKind.i64.wrap (b_2 + i_10)) fun x4 =>
  ixS data_0.a data_0.len x4 2 fun a5 =>
  ldA w1 a5 2 fun c6 =>
  lt (IntKind.i64.wrap (a_1 + i_10)) fun x7 =>
  ixS data_0.a data_0.len x7 2 fun a8 =>
  ldA w1 a8 2 fun c9 =>
  ixS data_0.a data_0.len x2 2 fun a10 =>
  (c6).size = 2 ∧
  stA w1 a10 c6 fun w11 =>
  ixS data_0.a data_0.len x3 2 fun a12 =>
  (c9).size = 2 ∧
  stA w11 a12 c9 fun w13 =>
  lt (IntKind.i64.wrap (i_10 + 1)) fun x14 =>
  nx1 data_0 a_1 b_2 n_3 x14 w13) (
  Q (.tuple ⟨[]⟩) w)

def slices_swapRangeCmpFunc_limit_pack.l1 (data_0 : Sl) (a_1 : Int) (b_2 : Int) (n_3 : Int) (i_10 : Int) (Q : Value → World → Prop) (w : World) : Prop :=
  ∃ (I : Int → World → Prop) (μ : Int → World → Nat), I i_10 w ∧ ∀ i_10 : Int, ∀ w : World, I i_10 w → slices_swapRangeCmpFunc_limit_pack.b1 data_0 a_1 b_2 n_3 i_10 Q (fun data_0' a_1' b_2' n_3' i_10' w' => (data_0' = data_0 ∧ a_1' = a_1 ∧ b_2' = b_2 ∧ n_3' = n_3) ∧ I i_10' w' ∧ μ i_10' w' < μ i_10 w) w

def slices_swapRangeCmpFunc_limit_pack.j1 (data_0 : Sl) (a_1 : Int) (b_2 : Int) (n_3 : Int) (i_10 : Int) (Q : Value → World → Prop) (w : World) : Prop :=
  slices_swapRangeCmpFunc_limit_pack.l1 data_0 a_1 b_2 n_3 i_10 Q w

def slices_swapRangeCmpFunc_limit_pack (data_0 : Sl) (a_1 : Int) (b_2 : Int) (n_3 : Int) (Q : Value → World → Prop) (w : World) : Prop :=
  slices_swapRangeCmpFunc_limit_pack.j1 data_0 a_1 b_2 n_3 0 Q w

theorem slices_swapRangeCmpFunc_limit_pack.ok (data_0 : Sl) (a_1 : Int) (b_2 : Int) (n_3 : Int) (Q : Value → World → Prop) (w : World) (h : slices_swapRangeCmpFunc_limit_pack data_0 a_1 b_2 n_3 Q w) : Calls Try.prog 179 ⟨[.slice data_0.a data_0.len data_0.cap, .int .i64 a_1, .int .i64 b_2, .int .i64 n_3, .func (.func 41) ⟨[]⟩ ⟨[]⟩]⟩ w (Ret Q) := by
  refine calls_of_wpc [] Try.func179 rfl rfl rfl rfl ?_
  refine wpc_seq (fun ρ w => asL (ρ 0) fun data_0 => asI .i64 (ρ 1) fun a_1 => asI .i64 (ρ 2) fun b_2 => asI .i64 (ρ 3) fun n_3 => asI .i64 (ρ 10) fun i_10 => slices_swapRangeCmpFunc_limit_pack.j1 data_0 a_1 b_2 n_3 i_10 Q w) ?_ ?_
  · skip
    exact pt_sound hmix _ (Eq.mp (by kernel_rfl) h)
  · intro ρ w h
    obtain ⟨data_0, e0, h⟩ := asL_el h
    obtain ⟨a_1, e1, h⟩ := asI_el h
    obtain ⟨b_2, e2, h⟩ := asI_el h
    obtain ⟨n_3, e3, h⟩ := asI_el h
    obtain ⟨i_10, e10, h⟩ := asI_el h
    refine reroot e0 (reroot (upd_other e1 rfl) (reroot (upd_other (upd_other e2 rfl) rfl) (reroot (upd_other (upd_other (upd_other e3 rfl) rfl) rfl) (reroot (upd_other (upd_other (upd_other (upd_other e10 rfl) rfl) rfl) rfl) ?_))))
    refine wpc_block ?_
    obtain ⟨I, μ, hI, hr⟩ := h
    refine wpc_loopS (α := Int) (fun s ρ => ρ 10 = .int .i64 s ∧ ρ 0 = .slice data_0.a data_0.len data_0.cap ∧ ρ 1 = .int .i64 a_1 ∧ ρ 2 = .int .i64 b_2 ∧ ρ 3 = .int .i64 n_3) (fun s w => I s w) (fun s w => μ s w) i_10 ⟨rfl, rfl, rfl, rfl, rfl⟩ hI ?_
    rintro i_10 ρ w ⟨e10, e0, e1, e2, e3⟩ hI
    have h := hr i_10 w hI
    clear hr
    obtain ⟨nx1, hnx⟩ : ∃ nx : Sl → Int → Int → Int → Int → World → Prop, nx = (fun data_0' a_1' b_2' n_3' i_10' w' => (data_0' = data_0 ∧ a_1' = a_1 ∧ b_2' = b_2 ∧ n_3' = n_3) ∧ I i_10' w' ∧ μ i_10' w' < μ i_10 w) := ⟨_, rfl⟩
    rw [← hnx] at h
    refine wpc_norm (M := fun ρ w => asL (ρ 0) fun data_0 => asI .i64 (ρ 1) fun a_1 => asI .i64 (ρ 2) fun b_2 => asI .i64 (ρ 3) fun n_3 => asI .i64 (ρ 10) fun i_10 => nx1 data_0 a_1 b_2 n_3 i_10 w) ?_ (fun ρ w h => ?_)
    · skip
      refine reroot e0 (reroot (upd_other e1 rfl) (reroot (upd_other (upd_other e2 rfl) rfl) (reroot (upd_other (upd_other (upd_other e3 rfl) rfl) rfl) (reroot (upd_other (upd_other (upd_other (upd_other e10 rfl) rfl) rfl) rfl) ?_))))
      exact pt_sound hmix _ (Eq.mp (by kernel_rfl) h)
    · skip
      obtain ⟨data_0', e0', h⟩ := asL_el h
      obtain ⟨a_1', e1', h⟩ := asI_el h
      obtain ⟨b_2', e2', h⟩ := asI_el h
      obtain ⟨n_3', e3', h⟩ := asI_el h
      obtain ⟨i_10', e10', h⟩ := asI_el h
      rw [hnx] at h
      obtain ⟨hu, hI2, hμ⟩ := h
      obtain ⟨rfl, rfl, rfl, rfl⟩ := hu
      exact ⟨i_10', ⟨e10', e0', e1', e2', e3'⟩, hI2, hμ⟩

/-! slices.rotateCmpFunc[trove/limit.pack] -/
def slices_rotateCmpFunc_limit_pack.j2 (data_0 : Sl) (m_2 : Int) (i_10 : Int) (Q : Value → World → Prop) (w : World) : Prop :=
  lt (IntKind.i64.wrap (m_2 - i_10)) fun x1 =>
  Calls Try.prog 179 ⟨[.slice data_0.a data_0.len data_0.cap, .int .i64 x1, .int .i64 m_2, .int .i64 i_10, .func (.func 41) ⟨[]⟩ ⟨[]⟩]⟩ w fun e2 w3 =>
  e2 = .returned (.tuple ⟨[]⟩) ∧
  Q (.tuple ⟨[]⟩) w3

def slices_rotateCmpFunc_limit_pack.b1 (data_0 : Sl) (m_2 : Int) (i_10 : Int) (j_11 : Int) (Q : Value → World → Prop) (nx1 : Sl → Int → Int → Int → World → Prop) (w : World) : Prop :=
  br ((i_10 : Int) != j_11) (
  br (decide ((i_10 : Int) > j_11)) (
  lt (IntKind.i64.wrap (m_2 - i_10)) fun x4 =>
  Calls Try.prog 179 ⟨[.slice data_0.a data_0.len data_0.cap, .int .i64 x4, .int .i64 m_2, .int .i64 j_11, .func (.func 41) ⟨[]⟩ ⟨[]⟩]⟩ w fun e5 w6 =>
  e5 = .returned (.tuple ⟨[]⟩) ∧
  lt (IntKind.i64.wrap (i_10 - j_11)) fun x7 =>
  nx1 data_0 m_2 x7 j_11 w6) (
  lt (IntKind.i64.wrap (m_2 - i_10)) fun x8 =>
  lt (IntKind.i64.wrap (m_2 + j_11)) fun x9 =>
  lt (IntKind.i64.wrap (x9 - i_10)) fun x10 =>
  Calls Try.prog 179 ⟨[.slice data_0.a data_0.len data_0.cap, .int .i64 x8, .int .i64 x10, .int .i64 i_10, .func (.func 41) ⟨[]⟩ ⟨[]⟩]⟩ w fun e11 w12 =>
  e11 = .returned (.tuple ⟨[]⟩) ∧
  lt (IntKind.i64.wrap (j_11 - i_10)) fun x13 =>
  nx1 data_0 m_2 i_10 x13 w12)) (
  slices_rotateCmpFunc_limit_pack.j2 data_0 m_2 i_10 Q w)

def slices_rotateCmpFunc_limit_pack.l1 (data_0 : Sl) (m_2 : Int) (i_10 : Int) (j_11 : Int) (Q : Value → World → Prop) (w : World) : Prop :=
  ∃ (I : Int → Int → World → Prop) (μ : Int → Int → World → Nat), I i_10 j_11 w ∧ ∀ i_10 : Int, ∀ j_11 : Int, ∀ w : World, I i_10 j_11 w → slices_rotateCmpFunc_limit_pack.b1 data_0 m_2 i_10 j_11 Q (fun data_0' m_2' i_10' j_11' w' => (data_0' = data_0 ∧ m_2' = m_2) ∧ I i_10' j_11' w' ∧ μ i_10' j_11' w' < μ i_10 j_11 w) w

def slices_rotateCmpFunc_limit_pack.j1 (data_0 : Sl) (m_2 : Int) (i_10 : Int) (j_11 : Int) (Q : Value → World → Prop) (w : World) : Prop :=
  slices_rotateCmpFunc_limit_pack.l1 data_0 m_2 i_10 j_11 Q w

def slices_rotateCmpFunc_limit_pack (data_0 : Sl) (a_1 : Int) (m_2 : Int) (b_3 : Int) (Q : Value → World → Prop) (w : World) : Prop :=
  lt (IntKind.i64.wrap (m_2 - a_1)) fun x14 =>
  lt (IntKind.i64.wrap (b_3 - m_2)) fun x15 =>
  slices_rotateCmpFunc_limit_pack.j1 data_0 m_2 x14 x15 Q w

theorem slices_rotateCmpFunc_limit_pack.ok (data_0 : Sl) (a_1 : Int) (m_2 : Int) (b_3 : Int) (Q : Value → World → Prop) (w : World) (h : slices_rotateCmpFunc_limit_pack data_0 a_1 m_2 b_3 Q w) : Calls Try.prog 165 ⟨[.slice data_0.a data_0.len data_0.cap, .int .i64 a_1, .int .i64 m_2, .int .i64 b_3, .func (.func 41) ⟨[]⟩ ⟨[]⟩]⟩ w (Ret Q) := by
  refine calls_of_wpc [] Try.func165 rfl rfl rfl rfl ?_
  refine wpc_pre2 hmix (fun ρ w => asL (ρ 0) fun data_0 => asI .i64 (ρ 2) fun m_2 => asC0 41 (ρ 4) <| asI .i64 (ρ 10) fun i_10 => asI .i64 (ρ 11) fun j_11 => slices_rotateCmpFunc_limit_pack.j1 data_0 m_2 i_10 j_11 Q w) (Eq.mp (by kernel_rfl) h) ?_
  intro ρ w h
  obtain ⟨data_0, e0, h⟩ := asL_el h
  obtain ⟨m_2, e2, h⟩ := asI_el h
  obtain ⟨e4, h⟩ := asC0_el h
  obtain ⟨i_10, e10, h⟩ := asI_el h
  obtain ⟨j_11, e11, h⟩ := asI_el h
  refine reroot e0 (reroot (upd_other e2 rfl) (reroot (upd_other (upd_other e4 rfl) rfl) (reroot (upd_other (upd_other (upd_other e10 rfl) rfl) rfl) (reroot (upd_other (upd_other (upd_other (upd_other e11 rfl) rfl) rfl) rfl) ?_))))
  refine wpc_seq (fun ρ w => asL (ρ 0) fun data_0 => asI .i64 (ρ 2) fun m_2 => asC0 41 (ρ 4) <| asI .i64 (ρ 10) fun i_10 => slices_rotateCmpFunc_limit_pack.j2 data_0 m_2 i_10 Q w) ?_ ?_
  · skip
    refine wpc_block ?_
    obtain ⟨I, μ, hI, hr⟩ := h
    refine wpc_loopS (α := Int × Int) (fun s ρ => ρ 10 = .int .i64 s.1 ∧ ρ 11 = .int .i64 s.2 ∧ ρ 0 = .slice data_0.a data_0.len data_0.cap ∧ ρ 2 = .int .i64 m_2 ∧ ρ 4 = .func (.func 41) ⟨[]⟩ ⟨[]⟩) (fun s w => I s.1 s.2 w) (fun s w => μ s.1 s.2 w) (i_10, j_11) ⟨rfl, rfl, rfl, rfl, rfl⟩ hI ?_
    rintro ⟨i_10, j_11⟩ ρ w ⟨e10, e11, e0, e2, e4⟩ hI
    have h := hr i_10 j_11 w hI
    clear hr
    obtain ⟨nx1, hnx⟩ : ∃ nx : Sl → Int → Int → Int → World → Prop, nx = (fun data_0' m_2' i_10' j_11' w' => (data_0' = data_0 ∧ m_2' = m_2) ∧ I i_10' j_11' w' ∧ μ i_10' j_11' w' < μ i_10 j_11 w) := ⟨_, rfl⟩
    rw [← hnx] at h
    refine wpc_norm (M := fun ρ w => asL (ρ 0) fun data_0 => asI .i64 (ρ 2) fun m_2 => asC0 41 (ρ 4) <| asI .i64 (ρ 10) fun i_10 => asI .i64 (ρ 11) fun j_11 => nx1 data_0 m_2 i_10 j_11 w) ?_ (fun ρ w h => ?_)
    · skip
      refine reroot e0 (reroot (upd_other e2 rfl) (reroot (upd_other (upd_other e4 rfl) rfl) (reroot (upd_other (upd_other (upd_other e10 rfl) rfl) rfl) (reroot (upd_other (upd_other (upd_other (upd_other e11 rfl) rfl) rfl) rfl) ?_))))
      exact pt_sound hmix _ (Eq.mp (by kernel_rfl) h)
    · skip
      obtain ⟨data_0', e0', h⟩ := asL_el h
      obtain ⟨m_2', e2', h⟩ := asI_el h
      obtain ⟨e4', h⟩ := asC0_el h
      obtain ⟨i_10', e10', h⟩ := asI_el h
      obtain ⟨j_11', e11', h⟩ := asI_el h
      rw [hnx] at h
      obtain ⟨hu, hI2, hμ⟩ := h
      obtain ⟨rfl, rfl⟩ := hu
      exact ⟨(i_10', j_11'), ⟨e10', e11', e0', e2', e4'⟩, hI2, hμ⟩
  · intro ρ w h
    obtain ⟨data_0, e0, h⟩ := asL_el h
    obtain ⟨m_2, e2, h⟩ := asI_el h
    obtain ⟨e4, h⟩ := asC0_el h
    obtain ⟨i_10, e10, h⟩ := asI_el h
    refine reroot e0 (reroot (upd_other e2 rfl) (reroot (upd_other (upd_other e4 rfl) rfl) (reroot (upd_other (upd_other (upd_other e10 rfl) rfl) rfl) ?_)))
    exact pt_sound hmix _ (Eq.mp (by kernel_rfl) h)

/-! slices.symMergeCmpFunc[trove/limit.pack] -/
def slices_symMergeCmpFunc_limit_pack.j8 (d_0 : Sl) (t3 : Int) (t18 : Int) (t24 : Int) (Q : Value → World → Prop) (w : World) : Prop :=
  br (decide ((t18 : Int) < t24)) (
  br (decide ((t24 : Int) < t3)) (
  Calls Try.prog 136 ⟨[.slice d_0.a d_0.len d_0.cap, .int .i64 t18, .int .i64 t24, .int .i64 t3, .func (.func 41) ⟨[]⟩ ⟨[]⟩]⟩ w fun e1 w2 =>
  e1 = .returned (.tuple ⟨[]⟩) ∧
  Q (.tuple ⟨[]⟩) w2) (
  Q (.tuple ⟨[]⟩) w)) (
  Q (.tuple ⟨[]⟩) w)

def slices_symMergeCmpFunc_limit_pack.j7 (d_0 : Sl) (i_1 : Int) (t3 : Int) (t18 : Int) (t20 : Int) (t24 : Int) (Q : Value → World → Prop) (w : World) : Prop :=
  br (decide ((i_1 : Int) < t20)) (
  br (decide ((t20 : Int) < t18)) (
  Calls Try.prog 136 ⟨[.slice d_0.a d_0.len d_0.cap, .int .i64 i_1, .int .i64 t20, .int .i64 t18, .func (.func 41) ⟨[]⟩ ⟨[]⟩]⟩ w fun e3 w4 =>
  e3 = .returned (.tuple ⟨[]⟩) ∧
  slices_symMergeCmpFunc_limit_pack.j8 d_0 t3 t18 t24 Q w4) (
  slices_symMergeCmpFunc_limit_pack.j8 d_0 t3 t18 t24 Q w)) (
  slices_symMergeCmpFunc_limit_pack.j8 d_0 t3 t18 t24 Q w)

def slices_symMergeCmpFunc_limit_pack.j6 (d_0 : Sl) (i_1 : Int) (t2 : Int) (t3 : Int) (t18 : Int) (t19 : Int) (t20 : Int) (Q : Value → World → Prop) (w : World) : Prop :=
  lt (IntKind.i64.wrap (t19 - t20)) fun x5 =>
  br (decide ((t20 : Int) < t2)) (
  br (decide ((t2 : Int) < x5)) (
  Calls Try.prog 165 ⟨[.slice d_0.a d_0.len d_0.cap, .int .i64 t20, .int .i64 t2, .int .i64 x5, .func (.func 41) ⟨[]⟩ ⟨[]⟩]⟩ w fun e6 w7 =>
  e6 = .returned (.tuple ⟨[]⟩) ∧
  slices_symMergeCmpFunc_limit_pack.j7 d_0 i_1 t3 t18 t20 x5 Q w7) (
  slices_symMergeCmpFunc_limit_pack.j7 d_0 i_1 t3 t18 t20 x5 Q w)) (
  slices_symMergeCmpFunc_limit_pack.j7 d_0 i_1 t3 t18 t20 x5 Q w)

def slices_symMergeCmpFunc_limit_pack.b1 (d_0 : Sl) (i_1 : Int) (t2 : Int) (t3 : Int) (t18 : Int) (t19 : Int) (t22 : Int) (t20 : Int) (t21 : Int) (Q : Value → World → Prop) (nx1 : Sl → Int → Int → Int → Int → Int → Int → Int → Int → World → Prop) (w : World) : Prop :=
  br (decide ((t20 : Int) < t21)) (
  lt (IntKind.i64.wrap (t20 + t21)) fun x8 =>
  lt (IntKind.u64.wrap x8) fun x9 =>
  (0 : Int) ≤ 1 ∧
  lt (shrV .u64 x9 1) fun x10 =>
  lt (IntKind.i64.wrap x10) fun x11 =>
  lt (World.drew w) fun w12 =>
  lt (IntKind.i64.wrap (t22 - x11)) fun x13 =>
  ixS d_0.a d_0.len x13 2 fun a14 =>
  ldA w12 a14 2 fun c15 =>
  ixS d_0.a d_0.len x11 2 fun a16 =>
  ldA w12 a16 2 fun c17 =>
  Calls Try.prog 41 ⟨[.agg c15, .agg c17]⟩ w12 fun e18 w19 =>
  ∃ r20 : Int, e18 = .returned (.int .i64 r20) ∧
  br (!(decide ((r20 : Int) < 0))) (
  lt (IntKind.i64.wrap (x11 + 1)) fun x21 =>
  nx1 d_0 i_1 t2 t3 t18 t19 t22 x21 t21 w19) (
  nx1 d_0 i_1 t2 t3 t18 t19 t22 t20 x11 w19)) (
  slices_symMergeCmpFunc_limit_pack.j6 d_0 i_1 t2 t3 t18 t19 t20 Q w)

def slices_symMergeCmpFunc_limit_pack.l1 (d_0 : Sl) (i_1 : Int) (t2 : Int) (t3 : Int) (t18 : Int) (t19 : Int) (t22 : Int) (t20 : Int) (t21 : Int) (Q : Value → World → Prop) (w : World) : Prop :=
  ∃ (I : Int → Int → World → Prop) (μ : Int → Int → World → Nat), I t20 t21 w ∧ ∀ t20 : Int, ∀ t21 : Int, ∀ w : World, I t20 t21 w → slices_symMergeCmpFunc_limit_pack.b1 d_0 i_1 t2 t3 t18 t19 t22 t20 t21 Q (fun d_0' i_1' t2' t3' t18' t19' t22' t20' t21' w' => (d_0' = d_0 ∧ i_1' = i_1 ∧ t2' = t2 ∧ t3' = t3 ∧ t18' = t18 ∧ t19' = t19 ∧ t22' = t22) ∧ I t20' t21' w' ∧ μ t20' t21' w' < μ t20 t21 w) w

def slices_symMergeCmpFunc_limit_pack.j5 (d_0 : Sl) (i_1 : Int) (t2 : Int) (t3 : Int) (t18 : Int) (t19 : Int) (t20 : Int) (t21 : Int) (t22 : Int) (Q : Value → World → Prop) (w : World) : Prop :=
  slices_symMergeCmpFunc_limit_pack.l1 d_0 i_1 t2 t3 t18 t19 t22 t20 t21 Q w

def slices_symMergeCmpFunc_limit_pack.j4 (d_0 : Sl) (i_1 : Int) (t2 : Int) (t3 : Int) (t18 : Int) (t19 : Int) (t20 : Int) (t21 : Int) (Q : Value → World → Prop) (w : World) : Prop :=
  lt (IntKind.i64.wrap (t19 - 1)) fun x22 =>
  slices_symMergeCmpFunc_limit_pack.j5 d_0 i_1 t2 t3 t18 t19 t20 t21 x22 Q w

def slices_symMergeCmpFunc_limit_pack.j3 (d_0 : Sl) (i_1 : Int) (t2 : Int) (t3 : Int) (t18 : Int) (t19 : Int) (Q : Value → World → Prop) (w : World) : Prop :=
  br (decide ((t2 : Int) > t18)) (
  lt (IntKind.i64.wrap (t19 - t3)) fun x23 =>
  slices_symMergeCmpFunc_limit_pack.j4 d_0 i_1 t2 t3 t18 t19 x23 t18 Q w) (
  slices_symMergeCmpFunc_limit_pack.j4 d_0 i_1 t2 t3 t18 t19 i_1 t2 Q w)

def slices_symMergeCmpFunc_limit_pack.j2 (d_0 : Sl) (i_1 : Int) (t2 : Int) (t3 : Int) (Q : Value → World → Prop) (w : World) : Prop :=
  lt (IntKind.i64.wrap (i_1 + t3)) fun x24 =>
  lt (IntKind.u64.wrap x24) fun x25 =>
  (0 : Int) ≤ 1 ∧
  lt (shrV .u64 x25 1) fun x26 =>
  lt (IntKind.i64.wrap x26) fun x27 =>
  lt (IntKind.i64.wrap (x27 + t2)) fun x28 =>
  slices_symMergeCmpFunc_limit_pack.j3 d_0 i_1 t2 t3 x27 x28 Q w

def slices_symMergeCmpFunc_limit_pack.j12  (Q : Value → World → Prop) (w : World) : Prop :=
  Q (.tuple ⟨[]⟩) w

def slices_symMergeCmpFunc_limit_pack.b2 (d_0 : Sl) (t14 : Int) (t17 : Int) (Q : Value → World → Prop) (nx2 : Sl → Int → Int → World → Prop) (w : World) : Prop :=
  br (decide ((t17 : Int) > t14)) (
  lt (World.drew w) fun w29 =>
  lt (IntKind.i64.wrap (t17 - 1)) fun x30 =>
  lt (IntKind.i64.wrap (t17 - 1)) fun x31 =>
  ixS d_0.a d_0.len x31 2 fun a32 =>
  ldA w29 a32 2 fun c33 =>
  ixS d_0.a d_0.len t17 2 fun a34 =>
  ldA w29 a34 2 fun c35 =>
  ixS d_0.a d_0.len t17 2 fun a36 =>
  (c33).size = 2 ∧
  stA w29 a36 c33 fun w37 =>
  ixS d_0.a d_0.len x30 2 fun a38 =>
  (c35).size = 2 ∧
  stA w37 a38 c35 fun w39 =>
  lt (IntKind.i64.wrap (t17 - 1)) fun x40 =>
  nx2 d_0 t14 x40 w39) (
  slices_symMergeCmpFunc_limit_pack.j12 Q w)

def slices_symMergeCmpFunc_limit_pack.l2 (d_0 : Sl) (t14 : Int) (t17 : Int) (Q : Value → World → Prop) (w : World) : Prop :=
  ∃ (I : Int → World → Prop) (μ : Int → World → Nat), I t17 w ∧ ∀ t17 : Int, ∀ w : World, I t17 w → slices_symMergeCmpFunc_limit_pack.b2 d_0 t14 t17 Q (fun d_0' t14' t17' w' => (d_0' = d_0 ∧ t14' = t14) ∧ I t17' w' ∧ μ t17' w' < μ t17 w) w

def slices_symMergeCmpFunc_limit_pack.j13 (d_0 : Sl) (t14 : Int) (t17 : Int) (Q : Value → World → Prop) (w : World) : Prop :=
  slices_symMergeCmpFunc_limit_pack.l2 d_0 t14 t17 Q w

def slices_symMergeCmpFunc_limit_pack.j11 (d_0 : Sl) (t2 : Int) (t14 : Int) (Q : Value → World → Prop) (w : World) : Prop :=
  slices_symMergeCmpFunc_limit_pack.j13 d_0 t14 t2 Q w

def slices_symMergeCmpFunc_limit_pack.b3 (d_0 : Sl) (t2 : Int) (t14 : Int) (t15 : Int) (Q : Value → World → Prop) (nx3 : Sl → Int → Int → Int → World → Prop) (w : World) : Prop :=
  br (decide ((t14 : Int) < t15)) (
  lt (IntKind.i64.wrap (t14 + t15)) fun x41 =>
  lt (IntKind.u64.wrap x41) fun x42 =>
  (0 : Int) ≤ 1 ∧
  lt (shrV .u64 x42 1) fun x43 =>
  lt (IntKind.i64.wrap x43) fun x44 =>
  lt (World.drew w) fun w45 =>
  ixS d_0.a d_0.len t2 2 fun a46 =>
  ldA w45 a46 2 fun c47 =>
  ixS d_0.a d_0.len x44 2 fun a48 =>
  ldA w45 a48 2 fun c49 =>
  Calls Try.prog 41 ⟨[.agg c47, .agg c49]⟩ w45 fun e50 w51 =>
  ∃ r52 : Int, e50 = .returned (.int .i64 r52) ∧
  br (!(decide ((r52 : Int) < 0))) (
  lt (IntKind.i64.wrap (x44 + 1)) fun x53 =>
  nx3 d_0 t2 x53 t15 w51) (
  nx3 d_0 t2 t14 x44 w51)) (
  slices_symMergeCmpFunc_limit_pack.j11 d_0 t2 t14 Q w)

def slices_symMergeCmpFunc_limit_pack.l3 (d_0 : Sl) (t2 : Int) (t14 : Int) (t15 : Int) (Q : Value → World → Prop) (w : World) : Prop :=
  ∃ (I : Int → Int → World → Prop) (μ : Int → Int → World → Nat), I t14 t15 w ∧ ∀ t14 : Int, ∀ t15 : Int, ∀ w : World, I t14 t15 w → slices_symMergeCmpFunc_limit_pack.b3 d_0 t2 t14 t15 Q (fun d_0' t2' t14' t15' w' => (d_0' = d_0 ∧ t2' = t2) ∧ I t14' t15' w' ∧ μ t14' t15' w' < μ t14 t15 w) w

def slices_symMergeCmpFunc_limit_pack.j10 (d_0 : Sl) (t2 : Int) (t14 : Int) (t15 : Int) (Q : Value → World → Prop) (w : World) : Prop :=
  slices_symMergeCmpFunc_limit_pack.l3 d_0 t2 t14 t15 Q w

def slices_symMergeCmpFunc_limit_pack.j9 (d_0 : Sl) (i_1 : Int) (t2 : Int) (t3 : Int) (t80 : Bool) (Q : Value → World → Prop) (w : World) : Prop :=
  br t80 (
  slices_symMergeCmpFunc_limit_pack.j10 d_0 t2 i_1 t2 Q w) (
  slices_symMergeCmpFunc_limit_pack.j2 d_0 i_1 t2 t3 Q w)

def slices_symMergeCmpFunc_limit_pack.j1 (d_0 : Sl) (i_1 : Int) (t2 : Int) (t3 : Int) (Q : Value → World → Prop) (w : World) : Prop :=
  lt (IntKind.i64.wrap (t3 - t2)) fun x54 =>
  slices_symMergeCmpFunc_limit_pack.j9 d_0 i_1 t2 t3 ((x54 : Int) == 1) Q w

def slices_symMergeCmpFunc_limit_pack.j17  (Q : Value → World → Prop) (w : World) : Prop :=
  Q (.tuple ⟨[]⟩) w

def slices_symMergeCmpFunc_limit_pack.b4 (d_0 : Sl) (t10 : Int) (t13 : Int) (Q : Value → World → Prop) (nx4 : Sl → Int → Int → World → Prop) (w : World) : Prop :=
  lt (IntKind.i64.wrap (t10 - 1)) fun x55 =>
  br (decide ((t13 : Int) < x55)) (
  lt (World.drew w) fun w56 =>
  lt (IntKind.i64.wrap (t13 + 1)) fun x57 =>
  lt (IntKind.i64.wrap (t13 + 1)) fun x58 =>
  ixS d_0.a d_0.len x58 2 fun a59 =>
  ldA w56 a59 2 fun c60 =>
  ixS d_0.a d_0.len t13 2 fun a61 =>
  ldA w56 a61 2 fun c62 =>
  ixS d_0.a d_0.len t13 2 fun a63 =>
  (c60).size = 2 ∧
  stA w56 a63 c60 fun w64 =>
  ixS d_0.a d_0.len x57 2 fun a65 =>
  (c62).size = 2 ∧
  stA w64 a65 c62 fun w66 =>
  lt (IntKind.i64.wrap (t13 + 1)) fun x67 =>
  nx4 d_0 t10 x67 w66) (
  slices_symMergeCmpFunc_limit_pack.j17 Q w)

def slices_symMergeCmpFunc_limit_pack.l4 (d_0 : Sl) (t10 : Int) (t13 : Int) (Q : Value → World → Prop) (w : World) : Prop :=
  ∃ (I : Int → World → Prop) (μ : Int → World → Nat), I t13 w ∧ ∀ t13 : Int, ∀ w : World, I t13 w → slices_symMergeCmpFunc_limit_pack.b4 d_0 t10 t13 Q (fun d_0' t10' t13' w' => (d_0' = d_0 ∧ t10' = t10) ∧ I t13' w' ∧ μ t13' w' < μ t13 w) w

def slices_symMergeCmpFunc_limit_pack.j18 (d_0 : Sl) (t10 : Int) (t13 : Int) (Q : Value → World → Prop) (w : World) : Prop :=
  slices_symMergeCmpFunc_limit_pack.l4 d_0 t10 t13 Q w

def slices_symMergeCmpFunc_limit_pack.j16 (d_0 : Sl) (i_1 : Int) (t10 : Int) (Q : Value → World → Prop) (w : World) : Prop :=
  slices_symMergeCmpFunc_limit_pack.j18 d_0 t10 i_1 Q w

def slices_symMergeCmpFunc_limit_pack.b5 (d_0 : Sl) (i_1 : Int) (t10 : Int) (t11 : Int) (Q : Value → World → Prop) (nx5 : Sl → Int → Int → Int → World → Prop) (w : World) : Prop :=
  br (decide ((t10 : Int) < t11)) (
  lt (IntKind.i64.wrap (t10 + t11)) fun x68 =>
  lt (IntKind.u64.wrap x68) fun x69 =>
  (0 : Int) ≤ 1 ∧
  lt (shrV .u64 x69 1) fun x70 =>
  lt (IntKind.i64.wrap x70) fun x71 =>
  lt (World.drew w) fun w72 =>
  ixS d_0.a d_0.len x71 2 fun a73 =>
  ldA w72 a73 2 fun c74 =>
  ixS d_0.a d_0.len i_1 2 fun a75 =>
  ldA w72 a75 2 fun c76 =>
  Calls Try.prog 41 ⟨[.agg c74, .agg c76]⟩ w72 fun e77 w78 =>
  ∃ r79 : Int, e77 = .returned (.int .i64 r79) ∧
  br (decide ((r79 : Int) < 0)) (
  lt (IntKind.i64.wrap (x71 + 1)) fun x80 =>
  nx5 d_0 i_1 x80 t11 w78) (
  nx5 d_0 i_1 t10 x71 w78)) (
  slices_symMergeCmpFunc_limit_pack.j16 d_0 i_1 t10 Q w)

def slices_symMergeCmpFunc_limit_pack.l5 (d_0 : Sl) (i_1 : Int) (t10 : Int) (t11 : Int) (Q : Value → World → Prop) (w : World) : Prop :=
  ∃ (I : Int → Int → World → Prop) (μ : Int → Int → World → Nat), I t10 t11 w ∧ ∀ t10 : Int, ∀ t11 : Int, ∀ w : World, I t10 t11 w → slices_symMergeCmpFunc_limit_pack.b5 d_0 i_1 t10 t11 Q (fun d_0' i_1' t10' t11' w' => (d_0' = d_0 ∧ i_1' = i_1) ∧ I t10' t11' w' ∧ μ t10' t11' w' < μ t10 t11 w) w

def slices_symMergeCmpFunc_limit_pack.j15 (d_0 : Sl) (i_1 : Int) (t10 : Int) (t11 : Int) (Q : Value → World → Prop) (w : World) : Prop :=
  slices_symMergeCmpFunc_limit_pack.l5 d_0 i_1 t10 t11 Q w

def slices_symMergeCmpFunc_limit_pack.j14 (d_0 : Sl) (i_1 : Int) (t2 : Int) (t3 : Int) (t28 : Bool) (Q : Value → World → Prop) (w : World) : Prop :=
  br t28 (
  slices_symMergeCmpFunc_limit_pack.j15 d_0 i_1 t2 t3 Q w) (
  slices_symMergeCmpFunc_limit_pack.j1 d_0 i_1 t2 t3 Q w)

def slices_symMergeCmpFunc_limit_pack (d_0 : Sl) (i_1 : Int) (t2 : Int) (t3 : Int) (Q : Value → World → Prop) (w : World) : Prop :=
  lt (IntKind.i64.wrap (t2 - i_1)) fun x81 =>
  slices_symMergeCmpFunc_limit_pack.j14 d_0 i_1 t2 t3 ((x81 : Int) == 1) Q w

theorem slices_symMergeCmpFunc_limit_pack.ok (d_0 : Sl) (i_1 : Int) (t2 : Int) (t3 : Int) (Q : Value → World → Prop) (w : World) (h : slices_symMergeCmpFunc_limit_pack d_0 i_1 t2 t3 Q w) : Calls Try.prog 136 ⟨[.slice d_0.a d_0.len d_0.cap, .int .i64 i_1, .int .i64 t2, .int .i64 t3, .func (.func 41) ⟨[]⟩ ⟨[]⟩]⟩ w (Ret Q) := by
  refine calls_of_wpc [] Try.func136 rfl rfl rfl rfl ?_
  refine wpc_seq (fun ρ w => asL (ρ 0) fun d_0 => asI .i64 (ρ 1) fun i_1 => asI .i64 (ρ 2) fun t2 => asI .i64 (ρ 3) fun t3 => asC0 41 (ρ 4) <| slices_symMergeCmpFunc_limit_pack.j1 d_0 i_1 t2 t3 Q w) ?_ ?_
  · skip
    refine wpc_seq (fun ρ w => asL (ρ 0) fun d_0 => asI .i64 (ρ 1) fun i_1 => asI .i64 (ρ 2) fun t2 => asI .i64 (ρ 3) fun t3 => asC0 41 (ρ 4) <| asB (ρ 28) fun t28 => slices_symMergeCmpFunc_limit_pack.j14 d_0 i_1 t2 t3 t28 Q w) ?_ ?_
    · skip
      exact pt_sound hmix _ (Eq.mp (by kernel_rfl) h)
    · intro ρ w h
      obtain ⟨d_0, e0, h⟩ := asL_el h
      obtain ⟨i_1, e1, h⟩ := asI_el h
      obtain ⟨t2, e2, h⟩ := asI_el h
      obtain ⟨t3, e3, h⟩ := asI_el h
      obtain ⟨e4, h⟩ := asC0_el h
      obtain ⟨t28, e28, h⟩ := asB_el h
      refine reroot e0 (reroot (upd_other e1 rfl) (reroot (upd_other (upd_other e2 rfl) rfl) (reroot (upd_other (upd_other (upd_other e3 rfl) rfl) rfl) (reroot (upd_other (upd_other (upd_other (upd_other e4 rfl) rfl) rfl) rfl) (reroot (upd_other (upd_other (upd_other (upd_other (upd_other e28 rfl) rfl) rfl) rfl) rfl) ?_)))))
      refine wpc_cond (b := t28) rfl (fun hb => ?_) (fun hb => ?_)
      · have h := br_t h hb
        refine wpc_pre2 hmix (fun ρ w => asL (ρ 0) fun d_0 => asI .i64 (ρ 1) fun i_1 => asC0 41 (ρ 4) <| asI .i64 (ρ 10) fun t10 => asI .i64 (ρ 11) fun t11 => slices_symMergeCmpFunc_limit_pack.j15 d_0 i_1 t10 t11 Q w) (Eq.mp (by kernel_rfl) h) ?_
        intro ρ w h
        obtain ⟨d_0, e0, h⟩ := asL_el h
        obtain ⟨i_1, e1, h⟩ := asI_el h
        obtain ⟨e4, h⟩ := asC0_el h
        obtain ⟨t10, e10, h⟩ := asI_el h
        obtain ⟨t11, e11, h⟩ := asI_el h
        refine reroot e0 (reroot (upd_other e1 rfl) (reroot (upd_other (upd_other e4 rfl) rfl) (reroot (upd_other (upd_other (upd_other e10 rfl) rfl) rfl) (reroot (upd_other (upd_other (upd_other (upd_other e11 rfl) rfl) rfl) rfl) ?_))))
        refine wpc_seq (fun ρ w => asL (ρ 0) fun d_0 => asI .i64 (ρ 1) fun i_1 => asI .i64 (ρ 10) fun t10 => slices_symMergeCmpFunc_limit_pack.j16 d_0 i_1 t10 Q w) ?_ ?_
        · skip
          refine wpc_block ?_
          obtain ⟨I, μ, hI, hr⟩ := h
          refine wpc_loopS (α := Int × Int) (fun s ρ => ρ 10 = .int .i64 s.1 ∧ ρ 11 = .int .i64 s.2 ∧ ρ 0 = .slice d_0.a d_0.len d_0.cap ∧ ρ 1 = .int .i64 i_1 ∧ ρ 4 = .func (.func 41) ⟨[]⟩ ⟨[]⟩) (fun s w => I s.1 s.2 w) (fun s w => μ s.1 s.2 w) (t10, t11) ⟨rfl, rfl, rfl, rfl, rfl⟩ hI ?_
          rintro ⟨t10, t11⟩ ρ w ⟨e10, e11, e0, e1, e4⟩ hI
          have h := hr t10 t11 w hI
          clear hr
          obtain ⟨nx5, hnx⟩ : ∃ nx : Sl → Int → Int → Int → World → Prop, nx = (fun d_0' i_1' t10' t11' w' => (d_0' = d_0 ∧ i_1' = i_1) ∧ I t10' t11' w' ∧ μ t10' t11' w' < μ t10 t11 w) := ⟨_, rfl⟩
          rw [← hnx] at h
          refine wpc_norm (M := fun ρ w => asL (ρ 0) fun d_0 => asI .i64 (ρ 1) fun i_1 => asC0 41 (ρ 4) <| asI .i64 (ρ 10) fun t10 => asI .i64 (ρ 11) fun t11 => nx5 d_0 i_1 t10 t11 w) ?_ (fun ρ w h => ?_)
          · skip
            refine reroot e0 (reroot (upd_other e1 rfl) (reroot (upd_other (upd_other e4 rfl) rfl) (reroot (upd_other (upd_other (upd_other e10 rfl) rfl) rfl) (reroot (upd_other (upd_other (upd_other (upd_other e11 rfl) rfl) rfl) rfl) ?_))))
            exact pt_sound hmix _ (Eq.mp (by kernel_rfl) h)
          · skip
            obtain ⟨d_0', e0', h⟩ := asL_el h
            obtain ⟨i_1', e1', h⟩ := asI_el h
            obtain ⟨e4', h⟩ := asC0_el h
            obtain ⟨t10', e10', h⟩ := asI_el h
            obtain ⟨t11', e11', h⟩ := asI_el h
            rw [hnx] at h
            obtain ⟨hu, hI2, hμ⟩ := h
            obtain ⟨rfl, rfl⟩ := hu
            exact ⟨(t10', t11'), ⟨e10', e11', e0', e1', e4'⟩, hI2, hμ⟩
        · intro ρ w h
          obtain ⟨d_0, e0, h⟩ := asL_el h
          obtain ⟨i_1, e1, h⟩ := asI_el h
          obtain ⟨t10, e10, h⟩ := asI_el h
          refine reroot e0 (reroot (upd_other e1 rfl) (reroot (upd_other (upd_other e10 rfl) rfl) ?_))
          refine wpc_seq (fun ρ w =>  slices_symMergeCmpFunc_limit_pack.j17  Q w) ?_ ?_
          · skip
            refine wpc_seq (fun ρ w => asL (ρ 0) fun d_0 => asI .i64 (ρ 10) fun t10 => asI .i64 (ρ 13) fun t13 => slices_symMergeCmpFunc_limit_pack.j18 d_0 t10 t13 Q w) ?_ ?_
            · skip
              exact pt_sound hmix _ (Eq.mp (by kernel_rfl) h)
            · intro ρ w h
              obtain ⟨d_0, e0, h⟩ := asL_el h
              obtain ⟨t10, e10, h⟩ := asI_el h
              obtain ⟨t13, e13, h⟩ := asI_el h
              refine reroot e0 (reroot (upd_other e10 rfl) (reroot (upd_other (upd_other e13 rfl) rfl) ?_))
              refine wpc_block ?_
              obtain ⟨I, μ, hI, hr⟩ := h
              refine wpc_loopS (α := Int) (fun s ρ => ρ 13 = .int .i64 s ∧ ρ 0 = .slice d_0.a d_0.len d_0.cap ∧ ρ 10 = .int .i64 t10) (fun s w => I s w) (fun s w => μ s w) t13 ⟨rfl, rfl, rfl⟩ hI ?_
              rintro t13 ρ w ⟨e13, e0, e10⟩ hI
              have h := hr t13 w hI
              clear hr
              obtain ⟨nx4, hnx⟩ : ∃ nx : Sl → Int → Int → World → Prop, nx = (fun d_0' t10' t13' w' => (d_0' = d_0 ∧ t10' = t10) ∧ I t13' w' ∧ μ t13' w' < μ t13 w) := ⟨_, rfl⟩
              rw [← hnx] at h
              refine wpc_norm (M := fun ρ w => asL (ρ 0) fun d_0 => asI .i64 (ρ 10) fun t10 => asI .i64 (ρ 13) fun t13 => nx4 d_0 t10 t13 w) ?_ (fun ρ w h => ?_)
              · skip
                refine reroot e0 (reroot (upd_other e10 rfl) (reroot (upd_other (upd_other e13 rfl) rfl) ?_))
                exact pt_sound hmix _ (Eq.mp (by kernel_rfl) h)
              · skip
                obtain ⟨d_0', e0', h⟩ := asL_el h
                obtain ⟨t10', e10', h⟩ := asI_el h
                obtain ⟨t13', e13', h⟩ := asI_el h
                rw [hnx] at h
                obtain ⟨hu, hI2, hμ⟩ := h
                obtain ⟨rfl, rfl⟩ := hu
                exact ⟨t13', ⟨e13', e0', e10'⟩, hI2, hμ⟩
          · intro ρ w h
            exact pt_sound hmix _ (Eq.mp (by kernel_rfl) h)
      · have h := br_f h hb
        exact pt_sound hmix _ (Eq.mp (by kernel_rfl) h)
  · intro ρ w h
    obtain ⟨d_0, e0, h⟩ := asL_el h
    obtain ⟨i_1, e1, h⟩ := asI_el h
    obtain ⟨t2, e2, h⟩ := asI_el h
    obtain ⟨t3, e3, h⟩ := asI_el h
    obtain ⟨e4, h⟩ := asC0_el h
    refine reroot e0 (reroot (upd_other e1 rfl) (reroot (upd_other (upd_other e2 rfl) rfl) (reroot (upd_other (upd_other (upd_other e3 rfl) rfl) rfl) (reroot (upd_other (upd_other (upd_other (upd_other e4 rfl) rfl) rfl) rfl) ?_))))
    refine wpc_seq (fun ρ w => asL (ρ 0) fun d_0 => asI .i64 (ρ 1) fun i_1 => asI .i64 (ρ 2) fun t2 => asI .i64 (ρ 3) fun t3 => asC0 41 (ρ 4) <| slices_symMergeCmpFunc_limit_pack.j2 d_0 i_1 t2 t3 Q w) ?_ ?_
    · skip
      refine wpc_seq (fun ρ w => asL (ρ 0) fun d_0 => asI .i64 (ρ 1) fun i_1 => asI .i64 (ρ 2) fun t2 => asI .i64 (ρ 3) fun t3 => asC0 41 (ρ 4) <| asB (ρ 80) fun t80 => slices_symMergeCmpFunc_limit_pack.j9 d_0 i_1 t2 t3 t80 Q w) ?_ ?_
      · skip
        exact pt_sound hmix _ (Eq.mp (by kernel_rfl) h)
      · intro ρ w h
        obtain ⟨d_0, e0, h⟩ := asL_el h
        obtain ⟨i_1, e1, h⟩ := asI_el h
        obtain ⟨t2, e2, h⟩ := asI_el h
        obtain ⟨t3, e3, h⟩ := asI_el h
        obtain ⟨e4, h⟩ := asC0_el h
        obtain ⟨t80, e80, h⟩ := asB_el h
        refine reroot e0 (reroot (upd_other e1 rfl) (reroot (upd_other (upd_other e2 rfl) rfl) (reroot (upd_other (upd_other (upd_other e3 rfl) rfl) rfl) (reroot (upd_other (upd_other (upd_other (upd_other e4 rfl) rfl) rfl) rfl) (reroot (upd_other (upd_other (upd_other (upd_other (upd_other e80 rfl) rfl) rfl) rfl) rfl) ?_)))))
        refine wpc_cond (b := t80) rfl (fun hb => ?_) (fun hb => ?_)
        · have h := br_t h hb
          refine wpc_pre2 hmix (fun ρ w => asL (ρ 0) fun d_0 => asI .i64 (ρ 2) fun t2 => asC0 41 (ρ 4) <| asI .i64 (ρ 14) fun t14 => asI .i64 (ρ 15) fun t15 => slices_symMergeCmpFunc_limit_pack.j10 d_0 t2 t14 t15 Q w) (Eq.mp (by kernel_rfl) h) ?_
          intro ρ w h
          obtain ⟨d_0, e0, h⟩ := asL_el h
          obtain ⟨t2, e2, h⟩ := asI_el h
          obtain ⟨e4, h⟩ := asC0_el h
          obtain ⟨t14, e14, h⟩ := asI_el h
          obtain ⟨t15, e15, h⟩ := asI_el h
          refine reroot e0 (reroot (upd_other e2 rfl) (reroot (upd_other (upd_other e4 rfl) rfl) (reroot (upd_other (upd_other (upd_other e14 rfl) rfl) rfl) (reroot (upd_other (upd_other (upd_other (upd_other e15 rfl) rfl) rfl) rfl) ?_))))
          refine wpc_seq (fun ρ w => asL (ρ 0) fun d_0 => asI .i64 (ρ 2) fun t2 => asI .i64 (ρ 14) fun t14 => slices_symMergeCmpFunc_limit_pack.j11 d_0 t2 t14 Q w) ?_ ?_
          · skip
            refine wpc_block ?_
            obtain ⟨I, μ, hI, hr⟩ := h
            refine wpc_loopS (α := Int × Int) (fun s ρ => ρ 14 = .int .i64 s.1 ∧ ρ 15 = .int .i64 s.2 ∧ ρ 0 = .slice d_0.a d_0.len d_0.cap ∧ ρ 2 = .int .i64 t2 ∧ ρ 4 = .func (.func 41) ⟨[]⟩ ⟨[]⟩) (fun s w => I s.1 s.2 w) (fun s w => μ s.1 s.2 w) (t14, t15) ⟨rfl, rfl, rfl, rfl, rfl⟩ hI ?_
            rintro ⟨t14, t15⟩ ρ w ⟨e14, e15, e0, e2, e4⟩ hI
            have h := hr t14 t15 w hI
            clear hr
            obtain ⟨nx3, hnx⟩ : ∃ nx : Sl → Int → Int → Int → World → Prop, nx = (fun d_0' t2' t14' t15' w' => (d_0' = d_0 ∧ t2' = t2) ∧ I t14' t15' w' ∧ μ t14' t15' w' < μ t14 t15 w) := ⟨_, rfl⟩
            rw [← hnx] at h
            refine wpc_norm (M := fun ρ w => asL (ρ 0) fun d_0 => asI .i64 (ρ 2) fun t2 => asC0 41 (ρ 4) <| asI .i64 (ρ 14) fun t14 => asI .i64 (ρ 15) fun t15 => nx3 d_0 t2 t14 t15 w) ?_ (fun ρ w h => ?_)
            · skip
              refine reroot e0 (reroot (upd_other e2 rfl) (reroot (upd_other (upd_other e4 rfl) rfl) (reroot (upd_other (upd_other (upd_other e14 rfl) rfl) rfl) (reroot (upd_other (upd_other (upd_other (upd_other e15 rfl) rfl) rfl) rfl) ?_))))
              exact pt_sound hmix _ (Eq.mp (by kernel_rfl) h)
            · skip
              obtain ⟨d_0', e0', h⟩ := asL_el h
              obtain ⟨t2', e2', h⟩ := asI_el h
              obtain ⟨e4', h⟩ := asC0_el h
              obtain ⟨t14', e14', h⟩ := asI_el h
              obtain ⟨t15', e15', h⟩ := asI_el h
              rw [hnx] at h
              obtain ⟨hu, hI2, hμ⟩ := h
              obtain ⟨rfl, rfl⟩ := hu
              exact ⟨(t14', t15'), ⟨e14', e15', e0', e2', e4'⟩, hI2, hμ⟩
          · intro ρ w h
            obtain ⟨d_0, e0, h⟩ := asL_el h
            obtain ⟨t2, e2, h⟩ := asI_el h
            obtain ⟨t14, e14, h⟩ := asI_el h
            refine reroot e0 (reroot (upd_other e2 rfl) (reroot (upd_other (upd_other e14 rfl) rfl) ?_))
            refine wpc_seq (fun ρ w =>  slices_symMergeCmpFunc_limit_pack.j12  Q w) ?_ ?_
            · skip
              refine wpc_seq (fun ρ w => asL (ρ 0) fun d_0 => asI .i64 (ρ 14) fun t14 => asI .i64 (ρ 17) fun t17 => slices_symMergeCmpFunc_limit_pack.j13 d_0 t14 t17 Q w) ?_ ?_
              · skip
                exact pt_sound hmix _ (Eq.mp (by kernel_rfl) h)
              · intro ρ w h
                obtain ⟨d_0, e0, h⟩ := asL_el h
                obtain ⟨t14, e14, h⟩ := asI_el h
                obtain ⟨t17, e17, h⟩ := asI_el h
                refine reroot e0 (reroot (upd_other e14 rfl) (reroot (upd_other (upd_other e17 rfl) rfl) ?_))
                refine wpc_block ?_
                obtain ⟨I, μ, hI, hr⟩ := h
                refine wpc_loopS (α := Int) (fun s ρ => ρ 17 = .int .i64 s ∧ ρ 0 = .slice d_0.a d_0.len d_0.cap ∧ ρ 14 = .int .i64 t14) (fun s w => I s w) (fun s w => μ s w) t17 ⟨rfl, rfl, rfl⟩ hI ?_
                rintro t17 ρ w ⟨e17, e0, e14⟩ hI
                have h := hr t17 w hI
                clear hr
                obtain ⟨nx2, hnx⟩ : ∃ nx : Sl → Int → Int → World → Prop, nx = (fun d_0' t14' t17' w' => (d_0' = d_0 ∧ t14' = t14) ∧ I t17' w' ∧ μ t17' w' < μ t17 w) := ⟨_, rfl⟩
                rw [← hnx] at h
                refine wpc_norm (M := fun ρ w => asL (ρ 0) fun d_0 => asI .i64 (ρ 14) fun t14 => asI .i64 (ρ 17) fun t17 => nx2 d_0 t14 t17 w) ?_ (fun ρ w h => ?_)
                · skip
                  refine reroot e0 (reroot (upd_other e14 rfl) (reroot (upd_other (upd_other e17 rfl) rfl) ?_))
                  exact pt_sound hmix _ (Eq.mp (by kernel_rfl) h)
                · skip
                  obtain ⟨d_0', e0', h⟩ := asL_el h
                  obtain ⟨t14', e14', h⟩ := asI_el h
                  obtain ⟨t17', e17', h⟩ := asI_el h
                  rw [hnx] at h
                  obtain ⟨hu, hI2, hμ⟩ := h
                  obtain ⟨rfl, rfl⟩ := hu
                  exact ⟨t17', ⟨e17', e0', e14'⟩, hI2, hμ⟩
            · intro ρ w h
              exact pt_sound hmix _ (Eq.mp (by kernel_rfl) h)
        · have h := br_f h hb
          exact pt_sound hmix _ (Eq.mp (by kernel_rfl) h)
    · intro ρ w h
      obtain ⟨d_0, e0, h⟩ := asL_el h
      obtain ⟨i_1, e1, h⟩ := asI_el h
      obtain ⟨t2, e2, h⟩ := asI_el h
      obtain ⟨t3, e3, h⟩ := asI_el h
      obtain ⟨e4, h⟩ := asC0_el h
      refine reroot e0 (reroot (upd_other e1 rfl) (reroot (upd_other (upd_other e2 rfl) rfl) (reroot (upd_other (upd_other (upd_other e3 rfl) rfl) rfl) (reroot (upd_other (upd_other (upd_other (upd_other e4 rfl) rfl) rfl) rfl) ?_))))
      refine wpc_pre2 hmix (fun ρ w => asL (ρ 0) fun d_0 => asI .i64 (ρ 1) fun i_1 => asI .i64 (ρ 2) fun t2 => asI .i64 (ρ 3) fun t3 => asC0 41 (ρ 4) <| asI .i64 (ρ 18) fun t18 => asI .i64 (ρ 19) fun t19 => slices_symMergeCmpFunc_limit_pack.j3 d_0 i_1 t2 t3 t18 t19 Q w) (Eq.mp (by kernel_rfl) h) ?_
      intro ρ w h
      obtain ⟨d_0, e0, h⟩ := asL_el h
      obtain ⟨i_1, e1, h⟩ := asI_el h
      obtain ⟨t2, e2, h⟩ := asI_el h
      obtain ⟨t3, e3, h⟩ := asI_el h
      obtain ⟨e4, h⟩ := asC0_el h
      obtain ⟨t18, e18, h⟩ := asI_el h
      obtain ⟨t19, e19, h⟩ := asI_el h
      refine reroot e0 (reroot (upd_other e1 rfl) (reroot (upd_other (upd_other e2 rfl) rfl) (reroot (upd_other (upd_other (upd_other e3 rfl) rfl) rfl) (reroot (upd_other (upd_other (upd_other (upd_other e4 rfl) rfl) rfl) rfl) (reroot (upd_other (upd_other (upd_other (upd_other (upd_other e18 rfl) rfl) rfl) rfl) rfl) (reroot (upd_other (upd_other (upd_other (upd_other (upd_other (upd_other e19 rfl) rfl) rfl) rfl) rfl) rfl) ?_))))))
      refine wpc_pre2 hmix (fun ρ w => asL (ρ 0) fun d_0 => asI .i64 (ρ 1) fun i_1 => asI .i64 (ρ 2) fun t2 => asI .i64 (ρ 3) fun t3 => asC0 41 (ρ 4) <| asI .i64 (ρ 18) fun t18 => asI .i64 (ρ 19) fun t19 => asI .i64 (ρ 20) fun t20 => asI .i64 (ρ 21) fun t21 => slices_symMergeCmpFunc_limit_pack.j4 d_0 i_1 t2 t3 t18 t19 t20 t21 Q w) (Eq.mp (by kernel_rfl) h) ?_
      intro ρ w h
      obtain ⟨d_0, e0, h⟩ := asL_el h
      obtain ⟨i_1, e1, h⟩ := asI_el h
      obtain ⟨t2, e2, h⟩ := asI_el h
      obtain ⟨t3, e3, h⟩ := asI_el h
      obtain ⟨e4, h⟩ := asC0_el h
      obtain ⟨t18, e18, h⟩ := asI_el h
      obtain ⟨t19, e19, h⟩ := asI_el h
      obtain ⟨t20, e20, h⟩ := asI_el h
      obtain ⟨t21, e21, h⟩ := asI_el h
      refine reroot e0 (reroot (upd_other e1 rfl) (reroot (upd_other (upd_other e2 rfl) rfl) (reroot (upd_other (upd_other (upd_other e3 rfl) rfl) rfl) (reroot (upd_other (upd_other (upd_other (upd_other e4 rfl) rfl) rfl) rfl) (reroot (upd_other (upd_other (upd_other (upd_other (upd_other e18 rfl) rfl) rfl) rfl) rfl) (reroot (upd_other (upd_other (upd_other (upd_other (upd_other (upd_other e19 rfl) rfl) rfl) rfl) rfl) rfl) (reroot (upd_other (upd_other (upd_other (upd_other (upd_other (upd_other (upd_other e20 rfl) rfl) rfl) rfl) rfl) rfl) rfl) (reroot (upd_other (upd_other (upd_other (upd_other (upd_other (upd_other (upd_other (upd_other e21 rfl) rfl) rfl) rfl) rfl) rfl) rfl) rfl) ?_))))))))
      refine wpc_seq (fun ρ w => asL (ρ 0) fun d_0 => asI .i64 (ρ 1) fun i_1 => asI .i64 (ρ 2) fun t2 => asI .i64 (ρ 3) fun t3 => asC0 41 (ρ 4) <| asI .i64 (ρ 18) fun t18 => asI .i64 (ρ 19) fun t19 => asI .i64 (ρ 20) fun t20 => asI .i64 (ρ 21) fun t21 => asI .i64 (ρ 22) fun t22 => slices_symMergeCmpFunc_limit_pack.j5 d_0 i_1 t2 t3 t18 t19 t20 t21 t22 Q w) ?_ ?_
      · skip
        exact pt_sound hmix _ (Eq.mp (by kernel_rfl) h)
      · intro ρ w h
        obtain ⟨d_0, e0, h⟩ := asL_el h
        obtain ⟨i_1, e1, h⟩ := asI_el h
        obtain ⟨t2, e2, h⟩ := asI_el h
        obtain ⟨t3, e3, h⟩ := asI_el h
        obtain ⟨e4, h⟩ := asC0_el h
        obtain ⟨t18, e18, h⟩ := asI_el h
        obtain ⟨t19, e19, h⟩ := asI_el h
        obtain ⟨t20, e20, h⟩ := asI_el h
        obtain ⟨t21, e21, h⟩ := asI_el h
        obtain ⟨t22, e22, h⟩ := asI_el h
        refine reroot e0 (reroot (upd_other e1 rfl) (reroot (upd_other (upd_other e2 rfl) rfl) (reroot (upd_other (upd_other (upd_other e3 rfl) rfl) rfl) (reroot (upd_other (upd_other (upd_other (upd_other e4 rfl) rfl) rfl) rfl) (reroot (upd_other (upd_other (upd_other (upd_other (upd_other e18 rfl) rfl) rfl) rfl) rfl) (reroot (upd_other (upd_other (upd_other (upd_other (upd_other (upd_other e19 rfl) rfl) rfl) rfl) rfl) rfl) (reroot (upd_other (upd_other (upd_other (upd_other (upd_other (upd_other (upd_other e20 rfl) rfl) rfl) rfl) rfl) rfl) rfl) (reroot (upd_other (upd_other (upd_other (upd_other (upd_other (upd_other (upd_other (upd_other e21 rfl) rfl) rfl) rfl) rfl) rfl) rfl) rfl) (reroot (upd_other (upd_other (upd_other (upd_other (upd_other (upd_other (upd_other (upd_other (upd_other e22 rfl) rfl) rfl) rfl) rfl) rfl) rfl) rfl) rfl) ?_)))))))))
        refine wpc_seq (fun ρ w => asL (ρ 0) fun d_0 => asI .i64 (ρ 1) fun i_1 => asI .i64 (ρ 2) fun t2 => asI .i64 (ρ 3) fun t3 => asC0 41 (ρ 4) <| asI .i64 (ρ 18) fun t18 => asI .i64 (ρ 19) fun t19 => asI .i64 (ρ 20) fun t20 => slices_symMergeCmpFunc_limit_pack.j6 d_0 i_1 t2 t3 t18 t19 t20 Q w) ?_ ?_
        · skip
          refine wpc_block ?_
          obtain ⟨I, μ, hI, hr⟩ := h
          refine wpc_loopS (α := Int × Int) (fun s ρ => ρ 20 = .int .i64 s.1 ∧ ρ 21 = .int .i64 s.2 ∧ ρ 0 = .slice d_0.a d_0.len d_0.cap ∧ ρ 1 = .int .i64 i_1 ∧ ρ 2 = .int .i64 t2 ∧ ρ 3 = .int .i64 t3 ∧ ρ 4 = .func (.func 41) ⟨[]⟩ ⟨[]⟩ ∧ ρ 18 = .int .i64 t18 ∧ ρ 19 = .int .i64 t19 ∧ ρ 22 = .int .i64 t22) (fun s w => I s.1 s.2 w) (fun s w => μ s.1 s.2 w) (t20, t21) ⟨rfl, rfl, rfl, rfl, rfl, rfl, rfl, rfl, rfl, rfl⟩ hI ?_
          rintro ⟨t20, t21⟩ ρ w ⟨e20, e21, e0, e1, e2, e3, e4, e18, e19, e22⟩ hI
          have h := hr t20 t21 w hI
          clear hr
          obtain ⟨nx1, hnx⟩ : ∃ nx : Sl → Int → Int → Int → Int → Int → Int → Int → Int → World → Prop, nx = (fun d_0' i_1' t2' t3' t18' t19' t22' t20' t21' w' => (d_0' = d_0 ∧ i_1' = i_1 ∧ t2' = t2 ∧ t3' = t3 ∧ t18' = t18 ∧ t19' = t19 ∧ t22' = t22) ∧ I t20' t21' w' ∧ μ t20' t21' w' < μ t20 t21 w) := ⟨_, rfl⟩
          rw [← hnx] at h
          refine wpc_norm (M := fun ρ w => asL (ρ 0) fun d_0 => asI .i64 (ρ 1) fun i_1 => asI .i64 (ρ 2) fun t2 => asI .i64 (ρ 3) fun t3 => asC0 41 (ρ 4) <| asI .i64 (ρ 18) fun t18 => asI .i64 (ρ 19) fun t19 => asI .i64 (ρ 22) fun t22 => asI .i64 (ρ 20) fun t20 => asI .i64 (ρ 21) fun t21 => nx1 d_0 i_1 t2 t3 t18 t19 t22 t20 t21 w) ?_ (fun ρ w h => ?_)
          · skip
            refine reroot e0 (reroot (upd_other e1 rfl) (reroot (upd_other (upd_other e2 rfl) rfl) (reroot (upd_other (upd_other (upd_other e3 rfl) rfl) rfl) (reroot (upd_other (upd_other (upd_other (upd_other e4 rfl) rfl) rfl) rfl) (reroot (upd_other (upd_other (upd_other (upd_other (upd_other e18 rfl) rfl) rfl) rfl) rfl) (reroot (upd_other (upd_other (upd_other (upd_other (upd_other (upd_other e19 rfl) rfl) rfl) rfl) rfl) rfl) (reroot (upd_other (upd_other (upd_other (upd_other (upd_other (upd_other (upd_other e20 rfl) rfl) rfl) rfl) rfl) rfl) rfl) (reroot (upd_other (upd_other (upd_other (upd_other (upd_other (upd_other (upd_other (upd_other e21 rfl) rfl) rfl) rfl) rfl) rfl) rfl) rfl) (reroot (upd_other (upd_other (upd_other (upd_other (upd_other (upd_other (upd_other (upd_other (upd_other e22 rfl) rfl) rfl) rfl) rfl) rfl) rfl) rfl) rfl) ?_)))))))))
            exact pt_sound hmix _ (Eq.mp (by kernel_rfl) h)
          · skip
            obtain ⟨d_0', e0', h⟩ := asL_el h
            obtain ⟨i_1', e1', h⟩ := asI_el h
            obtain ⟨t2', e2', h⟩ := asI_el h
            obtain ⟨t3', e3', h⟩ := asI_el h
            obtain ⟨e4', h⟩ := asC0_el h
            obtain ⟨t18', e18', h⟩ := asI_el h
            obtain ⟨t19', e19', h⟩ := asI_el h
            obtain ⟨t22', e22', h⟩ := asI_el h
            obtain ⟨t20', e20', h⟩ := asI_el h
            obtain ⟨t21', e21', h⟩ := asI_el h
            rw [hnx] at h
            obtain ⟨hu, hI2, hμ⟩ := h
            obtain ⟨rfl, rfl, rfl, rfl, rfl, rfl, rfl⟩ := hu
            exact ⟨(t20', t21'), ⟨e20', e21', e0', e1', e2', e3', e4', e18', e19', e22'⟩, hI2, hμ⟩
        · intro ρ w h
          obtain ⟨d_0, e0, h⟩ := asL_el h
          obtain ⟨i_1, e1, h⟩ := asI_el h
          obtain ⟨t2, e2, h⟩ := asI_el h
          obtain ⟨t3, e3, h⟩ := asI_el h
          obtain ⟨e4, h⟩ := asC0_el h
          obtain ⟨t18, e18, h⟩ := asI_el h
          obtain ⟨t19, e19, h⟩ := asI_el h
          obtain ⟨t20, e20, h⟩ := asI_el h
          refine reroot e0 (reroot (upd_other e1 rfl) (reroot (upd_other (upd_other e2 rfl) rfl) (reroot (upd_other (upd_other (upd_other e3 rfl) rfl) rfl) (reroot (upd_other (upd_other (upd_other (upd_other e4 rfl) rfl) rfl) rfl) (reroot (upd_other (upd_other (upd_other (upd_other (upd_other e18 rfl) rfl) rfl) rfl) rfl) (reroot (upd_other (upd_other (upd_other (upd_other (upd_other (upd_other e19 rfl) rfl) rfl) rfl) rfl) rfl) (reroot (upd_other (upd_other (upd_other (upd_other (upd_other (upd_other (upd_other e20 rfl) rfl) rfl) rfl) rfl) rfl) rfl) ?_)))))))
          refine wpc_pre2 hmix (fun ρ w => asL (ρ 0) fun d_0 => asI .i64 (ρ 1) fun i_1 => asI .i64 (ρ 3) fun t3 => asC0 41 (ρ 4) <| asI .i64 (ρ 18) fun t18 => asI .i64 (ρ 20) fun t20 => asI .i64 (ρ 24) fun t24 => slices_symMergeCmpFunc_limit_pack.j7 d_0 i_1 t3 t18 t20 t24 Q w) (Eq.mp (by kernel_rfl) h) ?_
          intro ρ w h
          obtain ⟨d_0, e0, h⟩ := asL_el h
          obtain ⟨i_1, e1, h⟩ := asI_el h
          obtain ⟨t3, e3, h⟩ := asI_el h
          obtain ⟨e4, h⟩ := asC0_el h
          obtain ⟨t18, e18, h⟩ := asI_el h
          obtain ⟨t20, e20, h⟩ := asI_el h
          obtain ⟨t24, e24, h⟩ := asI_el h
          refine reroot e0 (reroot (upd_other e1 rfl) (reroot (upd_other (upd_other e3 rfl) rfl) (reroot (upd_other (upd_other (upd_other e4 rfl) rfl) rfl) (reroot (upd_other (upd_other (upd_other (upd_other e18 rfl) rfl) rfl) rfl) (reroot (upd_other (upd_other (upd_other (upd_other (upd_other e20 rfl) rfl) rfl) rfl) rfl) (reroot (upd_other (upd_other (upd_other (upd_other (upd_other (upd_other e24 rfl) rfl) rfl) rfl) rfl) rfl) ?_))))))
          refine wpc_seq (fun ρ w => asL (ρ 0) fun d_0 => asI .i64 (ρ 3) fun t3 => asC0 41 (ρ 4) <| asI .i64 (ρ 18) fun t18 => asI .i64 (ρ 24) fun t24 => slices_symMergeCmpFunc_limit_pack.j8 d_0 t3 t18 t24 Q w) ?_ ?_
          · skip
            exact pt_sound hmix _ (Eq.mp (by kernel_rfl) h)
          · intro ρ w h
            obtain ⟨d_0, e0, h⟩ := asL_el h
            obtain ⟨t3, e3, h⟩ := asI_el h
            obtain ⟨e4, h⟩ := asC0_el h
            obtain ⟨t18, e18, h⟩ := asI_el h
            obtain ⟨t24, e24, h⟩ := asI_el h
            refine reroot e0 (reroot (upd_other e3 rfl) (reroot (upd_other (upd_other e4 rfl) rfl) (reroot (upd_other (upd_other (upd_other e18 rfl) rfl) rfl) (reroot (upd_other (upd_other (upd_other (upd_other e24 rfl) rfl) rfl) rfl) ?_))))
            exact pt_sound hmix _ (Eq.mp (by kernel_rfl) h)

/-! slices.stableCmpFunc[trove/limit.pack] -/
def slices_stableCmpFunc_limit_pack.j6 (data_0 : Sl) (n_1 : Int) (blockSize_6 : Int) (a_7 : Int) (Q : Value → World → Prop) (nx1 : Sl → Int → Int → World → Prop) (w : World) : Prop :=
  lt (IntKind.i64.wrap (a_7 + blockSize_6)) fun x1 =>
  br (decide ((x1 : Int) < n_1)) (
  Calls Try.prog 136 ⟨[.slice data_0.a data_0.len data_0.cap, .int .i64 a_7, .int .i64 x1, .int .i64 n_1, .func (.func 41) ⟨[]⟩ ⟨[]⟩]⟩ w fun e2 w3 =>
  e2 = .returned (.tuple ⟨[]⟩) ∧
  lt (IntKind.i64.wrap (blockSize_6 * 2)) fun x4 =>
  nx1 data_0 n_1 x4 w3) (
  lt (IntKind.i64.wrap (blockSize_6 * 2)) fun x5 =>
  nx1 data_0 n_1 x5 w)

def slices_stableCmpFunc_limit_pack.b2 (data_0 : Sl) (n_1 : Int) (blockSize_6 : Int) (a_7 : Int) (b_8 : Int) (Q : Value → World → Prop) (nx1 : Sl → Int → Int → World → Prop) (nx2 : Sl → Int → Int → Int → Int → World → Prop) (w : World) : Prop :=
  br (decide ((b_8 : Int) ≤ n_1)) (
  lt (IntKind.i64.wrap (a_7 + blockSize_6)) fun x6 =>
  Calls Try.prog 136 ⟨[.slice data_0.a data_0.len data_0.cap, .int .i64 a_7, .int .i64 x6, .int .i64 b_8, .func (.func 41) ⟨[]⟩ ⟨[]⟩]⟩ w fun e7 w8 =>
  e7 = .returned (.tuple ⟨[]⟩) ∧
  lt (IntKind.i64.wrap (2 * blockSize_6)) fun x9 =>
  lt (IntKind.i64.wrap (b_8 + x9)) fun x10 =>
  nx2 data_0 n_1 blockSize_6 b_8 x10 w8) (
  slices_stableCmpFunc_limit_pack.j6 data_0 n_1 blockSize_6 a_7 Q nx1 w)

def slices_stableCmpFunc_limit_pack.l2 (data_0 : Sl) (n_1 : Int) (blockSize_6 : Int) (a_7 : Int) (b_8 : Int) (Q : Value → World → Prop) (nx1 : Sl → Int → Int → World → Prop) (w : World) : Prop :=
  ∃ (I : Int → Int → World → Prop) (μ : Int → Int → World → Nat), I a_7 b_8 w ∧ ∀ a_7 : Int, ∀ b_8 : Int, ∀ w : World, I a_7 b_8 w → slices_stableCmpFunc_limit_pack.b2 data_0 n_1 blockSize_6 a_7 b_8 Q nx1 (fun data_0' n_1' blockSize_6' a_7' b_8' w' => (data_0' = data_0 ∧ n_1' = n_1 ∧ blockSize_6' = blockSize_6) ∧ I a_7' b_8' w' ∧ μ a_7' b_8' w' < μ a_7 b_8 w) w

def slices_stableCmpFunc_limit_pack.j5 (data_0 : Sl) (n_1 : Int) (blockSize_6 : Int) (a_7 : Int) (b_8 : Int) (Q : Value → World → Prop) (nx1 : Sl → Int → Int → World → Prop) (w : World) : Prop :=
  slices_stableCmpFunc_limit_pack.l2 data_0 n_1 blockSize_6 a_7 b_8 Q nx1 w

def slices_stableCmpFunc_limit_pack.j4 (data_0 : Sl) (n_1 : Int) (blockSize_6 : Int) (Q : Value → World → Prop) (nx1 : Sl → Int → Int → World → Prop) (w : World) : Prop :=
  lt (IntKind.i64.wrap (2 * blockSize_6)) fun x11 =>
  slices_stableCmpFunc_limit_pack.j5 data_0 n_1 blockSize_6 0 x11 Q nx1 w

def slices_stableCmpFunc_limit_pack.b1 (data_0 : Sl) (n_1 : Int) (blockSize_6 : Int) (Q : Value → World → Prop) (nx1 : Sl → Int → Int → World → Prop) (w : World) : Prop :=
  br (decide ((blockSize_6 : Int) < n_1)) (
  slices_stableCmpFunc_limit_pack.j4 data_0 n_1 blockSize_6 Q nx1 w) (
  Q (.tuple ⟨[]⟩) w)

def slices_stableCmpFunc_limit_pack.l1 (data_0 : Sl) (n_1 : Int) (blockSize_6 : Int) (Q : Value → World → Prop) (w : World) : Prop :=
  ∃ (I : Int → World → Prop) (μ : Int → World → Nat), I blockSize_6 w ∧ ∀ blockSize_6 : Int, ∀ w : World, I blockSize_6 w → slices_stableCmpFunc_limit_pack.b1 data_0 n_1 blockSize_6 Q (fun data_0' n_1' blockSize_6' w' => (data_0' = data_0 ∧ n_1' = n_1) ∧ I blockSize_6' w' ∧ μ blockSize_6' w' < μ blockSize_6 w) w

def slices_stableCmpFunc_limit_pack.j3 (data_0 : Sl) (n_1 : Int) (blockSize_6 : Int) (Q : Value → World → Prop) (w : World) : Prop :=
  slices_stableCmpFunc_limit_pack.l1 data_0 n_1 blockSize_6 Q w

def slices_stableCmpFunc_limit_pack.j2 (data_0 : Sl) (n_1 : Int) (blockSize_6 : Int) (a_7 : Int) (Q : Value → World → Prop) (w : World) : Prop :=
  Calls Try.prog 135 ⟨[.slice data_0.a data_0.len data_0.cap, .int .i64 a_7, .int .i64 n_1, .func (.func 41) ⟨[]⟩ ⟨[]⟩]⟩ w fun e12 w13 =>
  e12 = .returned (.tuple ⟨[]⟩) ∧
  slices_stableCmpFunc_limit_pack.j3 data_0 n_1 blockSize_6 Q w13

def slices_stableCmpFunc_limit_pack.b3 (data_0 : Sl) (n_1 : Int) (blockSize_6 : Int) (a_7 : Int) (b_8 : Int) (Q : Value → World → Prop) (nx3 : Sl → Int → Int → Int → Int → World → Prop) (w : World) : Prop :=
  br (decide ((b_8 : Int) ≤ n_1)) (
  Calls Try.prog 135 ⟨[.slice data_0.a data_0.len data_0.cap, .int .i64 a_7, .int .i64 b_8, .func (.func 41) ⟨[]⟩ ⟨[]⟩]⟩ w fun e14 w15 =>
  e14 = .returned (.tuple ⟨[]⟩) ∧
  lt (IntKind.i64.wrap (b_8 + blockSize_6)) fun x16 =>
  nx3 data_0 n_1 blockSize_6 b_8 x16 w15) (
  slices_stableCmpFunc_limit_pack.j2 data_0 n_1 blockSize_6 a_7 Q w)

def slices_stableCmpFunc_limit_pack.l3 (data_0 : Sl) (n_1 : Int) (blockSize_6 : Int) (a_7 : Int) (b_8 : Int) (Q : Value → World → Prop) (w : World) : Prop :=
  ∃ (I : Int → Int → World → Prop) (μ : Int → Int → World → Nat), I a_7 b_8 w ∧ ∀ a_7 : Int, ∀ b_8 : Int, ∀ w : World, I a_7 b_8 w → slices_stableCmpFunc_limit_pack.b3 data_0 n_1 blockSize_6 a_7 b_8 Q (fun data_0' n_1' blockSize_6' a_7' b_8' w' => (data_0' = data_0 ∧ n_1' = n_1 ∧ blockSize_6' = blockSize_6) ∧ I a_7' b_8' w' ∧ μ a_7' b_8' w' < μ a_7 b_8 w) w

def slices_stableCmpFunc_limit_pack.j1 (data_0 : Sl) (n_1 : Int) (blockSize_6 : Int) (a_7 : Int) (b_8 : Int) (Q : Value → World → Prop) (w : World) : Prop :=
  slices_stableCmpFunc_limit_pack.l3 data_0 n_1 blockSize_6 a_7 b_8 Q w

def slices_stableCmpFunc_limit_pack (data_0 : Sl) (n_1 : Int) (Q : Value → World → Prop) (w : World) : Prop :=
  slices_stableCmpFunc_limit_pack.j1 data_0 n_1 20 0 20 Q w

theorem slices_stableCmpFunc_limit_pack.ok (data_0 : Sl) (n_1 : Int) (Q : Value → World → Prop) (w : World) (h : slices_stableCmpFunc_limit_pack data_0 n_1 Q w) : Calls Try.prog 89 ⟨[.slice data_0.a data_0.len data_0.cap, .int .i64 n_1, .func (.func 41) ⟨[]⟩ ⟨[]⟩]⟩ w (Ret Q) := by
  refine calls_of_wpc [] Try.func89 rfl rfl rfl rfl ?_
  refine wpc_pre2 hmix (fun ρ w => asL (ρ 0) fun data_0 => asI .i64 (ρ 1) fun n_1 => asC0 41 (ρ 2) <| asI .i64 (ρ 6) fun blockSize_6 => asI .i64 (ρ 7) fun a_7 => asI .i64 (ρ 8) fun b_8 => slices_stableCmpFunc_limit_pack.j1 data_0 n_1 blockSize_6 a_7 b_8 Q w) (Eq.mp (by kernel_rfl) h) ?_
  intro ρ w h
  obtain ⟨data_0, e0, h⟩ := asL_el h
  obtain ⟨n_1, e1, h⟩ := asI_el h
  obtain ⟨e2, h⟩ := asC0_el h
  obtain ⟨blockSize_6, e6, h⟩ := asI_el h
  obtain ⟨a_7, e7, h⟩ := asI_el h
  obtain ⟨b_8, e8, h⟩ := asI_el h
  refine reroot e0 (reroot (upd_other e1 rfl) (reroot (upd_other (upd_other e2 rfl) rfl) (reroot (upd_other (upd_other (upd_other e6 rfl) rfl) rfl) (reroot (upd_other (upd_other (upd_other (upd_other e7 rfl) rfl) rfl) rfl) (reroot (upd_other (upd_other (upd_other (upd_other (upd_other e8 rfl) rfl) rfl) rfl) rfl) ?_)))))
  refine wpc_seq (fun ρ w => asL (ρ 0) fun data_0 => asI .i64 (ρ 1) fun n_1 => asC0 41 (ρ 2) <| asI .i64 (ρ 6) fun blockSize_6 => asI .i64 (ρ 7) fun a_7 => slices_stableCmpFunc_limit_pack.j2 data_0 n_1 blockSize_6 a_7 Q w) ?_ ?_
  · skip
    refine wpc_block ?_
    obtain ⟨I, μ, hI, hr⟩ := h
    refine wpc_loopS (α := Int × Int) (fun s ρ => ρ 7 = .int .i64 s.1 ∧ ρ 8 = .int .i64 s.2 ∧ ρ 0 = .slice data_0.a data_0.len data_0.cap ∧ ρ 1 = .int .i64 n_1 ∧ ρ 2 = .func (.func 41) ⟨[]⟩ ⟨[]⟩ ∧ ρ 6 = .int .i64 blockSize_6) (fun s w => I s.1 s.2 w) (fun s w => μ s.1 s.2 w) (a_7, b_8) ⟨rfl, rfl, rfl, rfl, rfl, rfl⟩ hI ?_
    rintro ⟨a_7, b_8⟩ ρ w ⟨e7, e8, e0, e1, e2, e6⟩ hI
    have h := hr a_7 b_8 w hI
    clear hr
    obtain ⟨nx3, hnx⟩ : ∃ nx : Sl → Int → Int → Int → Int → World → Prop, nx = (fun data_0' n_1' blockSize_6' a_7' b_8' w' => (data_0' = data_0 ∧ n_1' = n_1 ∧ blockSize_6' = blockSize_6) ∧ I a_7' b_8' w' ∧ μ a_7' b_8' w' < μ a_7 b_8 w) := ⟨_, rfl⟩
    rw [← hnx] at h
    refine wpc_norm (M := fun ρ w => asL (ρ 0) fun data_0 => asI .i64 (ρ 1) fun n_1 => asC0 41 (ρ 2) <| asI .i64 (ρ 6) fun blockSize_6 => asI .i64 (ρ 7) fun a_7 => asI .i64 (ρ 8) fun b_8 => nx3 data_0 n_1 blockSize_6 a_7 b_8 w) ?_ (fun ρ w h => ?_)
    · skip
      refine reroot e0 (reroot (upd_other e1 rfl) (reroot (upd_other (upd_other e2 rfl) rfl) (reroot (upd_other (upd_other (upd_other e6 rfl) rfl) rfl) (reroot (upd_other (upd_other (upd_other (upd_other e7 rfl) rfl) rfl) rfl) (reroot (upd_other (upd_other (upd_other (upd_other (upd_other e8 rfl) rfl) rfl) rfl) rfl) ?_)))))
      exact pt_sound hmix _ (Eq.mp (by kernel_rfl) h)
    · skip
      obtain ⟨data_0', e0', h⟩ := asL_el h
      obtain ⟨n_1', e1', h⟩ := asI_el h
      obtain ⟨e2', h⟩ := asC0_el h
      obtain ⟨blockSize_6', e6', h⟩ := asI_el h
      obtain ⟨a_7', e7', h⟩ := asI_el h
      obtain ⟨b_8', e8', h⟩ := asI_el h
      rw [hnx] at h
      obtain ⟨hu, hI2, hμ⟩ := h
      obtain ⟨rfl, rfl, rfl⟩ := hu
      exact ⟨(a_7', b_8'), ⟨e7', e8', e0', e1', e2', e6'⟩, hI2, hμ⟩
  · intro ρ w h
    obtain ⟨data_0, e0, h⟩ := asL_el h
    obtain ⟨n_1, e1, h⟩ := asI_el h
    obtain ⟨e2, h⟩ := asC0_el h
    obtain ⟨blockSize_6, e6, h⟩ := asI_el h
    obtain ⟨a_7, e7, h⟩ := asI_el h
    refine reroot e0 (reroot (upd_other e1 rfl) (reroot (upd_other (upd_other e2 rfl) rfl) (reroot (upd_other (upd_other (upd_other e6 rfl) rfl) rfl) (reroot (upd_other (upd_other (upd_other (upd_other e7 rfl) rfl) rfl) rfl) ?_))))
    refine wpc_seq (fun ρ w => asL (ρ 0) fun data_0 => asI .i64 (ρ 1) fun n_1 => asC0 41 (ρ 2) <| asI .i64 (ρ 6) fun blockSize_6 => slices_stableCmpFunc_limit_pack.j3 data_0 n_1 blockSize_6 Q w) ?_ ?_
    · skip
      exact pt_sound hmix _ (Eq.mp (by kernel_rfl) h)
    · intro ρ w h
      obtain ⟨data_0, e0, h⟩ := asL_el h
      obtain ⟨n_1, e1, h⟩ := asI_el h
      obtain ⟨e2, h⟩ := asC0_el h
      obtain ⟨blockSize_6, e6, h⟩ := asI_el h
      refine reroot e0 (reroot (upd_other e1 rfl) (reroot (upd_other (upd_other e2 rfl) rfl) (reroot (upd_other (upd_other (upd_other e6 rfl) rfl) rfl) ?_)))
      refine wpc_block ?_
      obtain ⟨I, μ, hI, hr⟩ := h
      refine wpc_loopS (α := Int) (fun s ρ => ρ 6 = .int .i64 s ∧ ρ 0 = .slice data_0.a data_0.len data_0.cap ∧ ρ 1 = .int .i64 n_1 ∧ ρ 2 = .func (.func 41) ⟨[]⟩ ⟨[]⟩) (fun s w => I s w) (fun s w => μ s w) blockSize_6 ⟨rfl, rfl, rfl, rfl⟩ hI ?_
      rintro blockSize_6 ρ w ⟨e6, e0, e1, e2⟩ hI
      have h := hr blockSize_6 w hI
      clear hr
      obtain ⟨nx1, hnx⟩ : ∃ nx : Sl → Int → Int → World → Prop, nx = (fun data_0' n_1' blockSize_6' w' => (data_0' = data_0 ∧ n_1' = n_1) ∧ I blockSize_6' w' ∧ μ blockSize_6' w' < μ blockSize_6 w) := ⟨_, rfl⟩
      rw [← hnx] at h
      refine wpc_norm (M := fun ρ w => asL (ρ 0) fun data_0 => asI .i64 (ρ 1) fun n_1 => asC0 41 (ρ 2) <| asI .i64 (ρ 6) fun blockSize_6 => nx1 data_0 n_1 blockSize_6 w) ?_ (fun ρ w h => ?_)
      · skip
        refine reroot e0 (reroot (upd_other e1 rfl) (reroot (upd_other (upd_other e2 rfl) rfl) (reroot (upd_other (upd_other (upd_other e6 rfl) rfl) rfl) ?_)))
        refine wpc_seq (fun ρ w => asL (ρ 0) fun data_0 => asI .i64 (ρ 1) fun n_1 => asC0 41 (ρ 2) <| asI .i64 (ρ 6) fun blockSize_6 => slices_stableCmpFunc_limit_pack.j4 data_0 n_1 blockSize_6 Q nx1 w) ?_ ?_
        · skip
          exact pt_sound hmix _ (Eq.mp (by kernel_rfl) h)
        · intro ρ w h
          obtain ⟨data_0, e0, h⟩ := asL_el h
          obtain ⟨n_1, e1, h⟩ := asI_el h
          obtain ⟨e2, h⟩ := asC0_el h
          obtain ⟨blockSize_6, e6, h⟩ := asI_el h
          refine reroot e0 (reroot (upd_other e1 rfl) (reroot (upd_other (upd_other e2 rfl) rfl) (reroot (upd_other (upd_other (upd_other e6 rfl) rfl) rfl) ?_)))
          refine wpc_block ?_
          refine wpc_seq (fun ρ w => asL (ρ 0) fun data_0 => asI .i64 (ρ 1) fun n_1 => asC0 41 (ρ 2) <| asI .i64 (ρ 6) fun blockSize_6 => asI .i64 (ρ 7) fun a_7 => asI .i64 (ρ 8) fun b_8 => slices_stableCmpFunc_limit_pack.j5 data_0 n_1 blockSize_6 a_7 b_8 Q nx1 w) ?_ ?_
          · skip
            exact pt_sound hmix _ (Eq.mp (by kernel_rfl) h)
          · intro ρ w h
            obtain ⟨data_0, e0, h⟩ := asL_el h
            obtain ⟨n_1, e1, h⟩ := asI_el h
            obtain ⟨e2, h⟩ := asC0_el h
            obtain ⟨blockSize_6, e6, h⟩ := asI_el h
            obtain ⟨a_7, e7, h⟩ := asI_el h
            obtain ⟨b_8, e8, h⟩ := asI_el h
            refine reroot e0 (reroot (upd_other e1 rfl) (reroot (upd_other (upd_other e2 rfl) rfl) (reroot (upd_other (upd_other (upd_other e6 rfl) rfl) rfl) (reroot (upd_other (upd_other (upd_other (upd_other e7 rfl) rfl) rfl) rfl) (reroot (upd_other (upd_other (upd_other (upd_other (upd_other e8 rfl) rfl) rfl) rfl) rfl) ?_)))))
            refine wpc_seq (fun ρ w => asL (ρ 0) fun data_0 => asI .i64 (ρ 1) fun n_1 => asC0 41 (ρ 2) <| asI .i64 (ρ 6) fun blockSize_6 => asI .i64 (ρ 7) fun a_7 => slices_stableCmpFunc_limit_pack.j6 data_0 n_1 blockSize_6 a_7 Q nx1 w) ?_ ?_
            · skip
              refine wpc_block ?_
              obtain ⟨I, μ, hI, hr⟩ := h
              refine wpc_loopS (α := Int × Int) (fun s ρ => ρ 7 = .int .i64 s.1 ∧ ρ 8 = .int .i64 s.2 ∧ ρ 0 = .slice data_0.a data_0.len data_0.cap ∧ ρ 1 = .int .i64 n_1 ∧ ρ 2 = .func (.func 41) ⟨[]⟩ ⟨[]⟩ ∧ ρ 6 = .int .i64 blockSize_6) (fun s w => I s.1 s.2 w) (fun s w => μ s.1 s.2 w) (a_7, b_8) ⟨rfl, rfl, rfl, rfl, rfl, rfl⟩ hI ?_
              rintro ⟨a_7, b_8⟩ ρ w ⟨e7, e8, e0, e1, e2, e6⟩ hI
              have h := hr a_7 b_8 w hI
              clear hr
              obtain ⟨nx2, hnx⟩ : ∃ nx : Sl → Int → Int → Int → Int → World → Prop, nx = (fun data_0' n_1' blockSize_6' a_7' b_8' w' => (data_0' = data_0 ∧ n_1' = n_1 ∧ blockSize_6' = blockSize_6) ∧ I a_7' b_8' w' ∧ μ a_7' b_8' w' < μ a_7 b_8 w) := ⟨_, rfl⟩
              rw [← hnx] at h
              refine wpc_norm (M := fun ρ w => asL (ρ 0) fun data_0 => asI .i64 (ρ 1) fun n_1 => asC0 41 (ρ 2) <| asI .i64 (ρ 6) fun blockSize_6 => asI .i64 (ρ 7) fun a_7 => asI .i64 (ρ 8) fun b_8 => nx2 data_0 n_1 blockSize_6 a_7 b_8 w) ?_ (fun ρ w h => ?_)
              · skip
                refine reroot e0 (reroot (upd_other e1 rfl) (reroot (upd_other (upd_other e2 rfl) rfl) (reroot (upd_other (upd_other (upd_other e6 rfl) rfl) rfl) (reroot (upd_other (upd_other (upd_other (upd_other e7 rfl) rfl) rfl) rfl) (reroot (upd_other (upd_other (upd_other (upd_other (upd_other e8 rfl) rfl) rfl) rfl) rfl) ?_)))))
                exact pt_sound hmix _ (Eq.mp (by kernel_rfl) h)
              · skip
                obtain ⟨data_0', e0', h⟩ := asL_el h
                obtain ⟨n_1', e1', h⟩ := asI_el h
                obtain ⟨e2', h⟩ := asC0_el h
                obtain ⟨blockSize_6', e6', h⟩ := asI_el h
                obtain ⟨a_7', e7', h⟩ := asI_el h
                obtain ⟨b_8', e8', h⟩ := asI_el h
                rw [hnx] at h
                obtain ⟨hu, hI2, hμ⟩ := h
                obtain ⟨rfl, rfl, rfl⟩ := hu
                exact ⟨(a_7', b_8'), ⟨e7', e8', e0', e1', e2', e6'⟩, hI2, hμ⟩
            · intro ρ w h
              obtain ⟨data_0, e0, h⟩ := asL_el h
              obtain ⟨n_1, e1, h⟩ := asI_el h
              obtain ⟨e2, h⟩ := asC0_el h
              obtain ⟨blockSize_6, e6, h⟩ := asI_el h
              obtain ⟨a_7, e7, h⟩ := asI_el h
              refine reroot e0 (reroot (upd_other e1 rfl) (reroot (upd_other (upd_other e2 rfl) rfl) (reroot (upd_other (upd_other (upd_other e6 rfl) rfl) rfl) (reroot (upd_other (upd_other (upd_other (upd_other e7 rfl) rfl) rfl) rfl) ?_))))
              exact pt_sound hmix _ (Eq.mp (by kernel_rfl) h)
      · skip
        obtain ⟨data_0', e0', h⟩ := asL_el h
        obtain ⟨n_1', e1', h⟩ := asI_el h
        obtain ⟨e2', h⟩ := asC0_el h
        obtain ⟨blockSize_6', e6', h⟩ := asI_el h
        rw [hnx] at h
        obtain ⟨hu, hI2, hμ⟩ := h
        obtain ⟨rfl, rfl⟩ := hu
        exact ⟨blockSize_6', ⟨e6', e0', e1', e2'⟩, hI2, hμ⟩

/-! slices.SortStableFunc[[]trove/limit.pack,trove/limit.pack] -/
def slices_SortStableFunc_limit_pack (x_0 : Sl) (Q : Value → World → Prop) (w : World) : Prop :=
  Calls Try.prog 89 ⟨[.slice x_0.a x_0.len x_0.cap, .int .i64 ((x_0.len : Nat) : Int), .func (.func 41) ⟨[]⟩ ⟨[]⟩]⟩ w fun e1 w2 =>
  e1 = .returned (.tuple ⟨[]⟩) ∧
  Q (.tuple ⟨[]⟩) w2

theorem slices_SortStableFunc_limit_pack.ok (x_0 : Sl) (Q : Value → World → Prop) (w : World) (h : slices_SortStableFunc_limit_pack x_0 Q w) : Calls Try.prog 40 ⟨[.slice x_0.a x_0.len x_0.cap, .func (.func 41) ⟨[]⟩ ⟨[]⟩]⟩ w (Ret Q) := by
  refine calls_of_wpc [] Try.func40 rfl rfl rfl rfl ?_
  exact pt_sound hmix _ (Eq.mp (by kernel_rfl) h)

end Go.Proofs.Ythdmmmfgjmmelaa
