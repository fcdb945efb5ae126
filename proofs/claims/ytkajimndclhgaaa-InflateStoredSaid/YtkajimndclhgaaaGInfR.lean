/- PRINTED BY gen.py (own work): what calls come to, and the proofs of it. -/
import Derived.Test.YtkajimndclhgaaaVcJ
import Derived.Test.YtkajimndclhgaaaProg
namespace Go.Proofs.Ytkajimndclhgaaa
open Go Go.Proofs
set_option linter.unusedVariables false
set_option maxRecDepth 100000

/-! trove/troveref7.Fixed -/
def troveref7_Fixed.j4 (lit_2 : Sl) (dist_4 : Sl) (Q : Value → World → Prop) (w : World) : Prop :=
  Q (.tuple ⟨[.slice lit_2.a lit_2.len lit_2.cap, .slice dist_4.a dist_4.len dist_4.cap]⟩) w

def troveref7_Fixed.b1 (lit_2 : Sl) (dist_4 : Sl) (i_5 : Int) (Q : Value → World → Prop) (nx1 : Sl → Sl → Int → World → Prop) (w : World) : Prop :=
  br (decide ((i_5 : Int) < 32)) (
  ixS dist_4.a dist_4.len i_5 1 fun a1 =>
  st w a1 (.int .i64 5) fun w2 =>
  lt (IntKind.i64.wrap (i_5 + 1)) fun x3 =>
  nx1 lit_2 dist_4 x3 w2) (
  troveref7_Fixed.j4 lit_2 dist_4 Q w)

def troveref7_Fixed.l1 (lit_2 : Sl) (dist_4 : Sl) (i_5 : Int) (Q : Value → World → Prop) (w : World) : Prop :=
  ∃ (I : Int → World → Prop) (μ : Int → World → Nat), I i_5 w ∧ ∀ i_5 : Int, ∀ w : World, I i_5 w → troveref7_Fixed.b1 lit_2 dist_4 i_5 Q (fun lit_2' dist_4' i_5' w' => (lit_2' = lit_2 ∧ dist_4' = dist_4) ∧ I i_5' w' ∧ μ i_5' w' < μ i_5 w) w

def troveref7_Fixed.j5 (lit_2 : Sl) (dist_4 : Sl) (i_5 : Int) (Q : Value → World → Prop) (w : World) : Prop :=
  troveref7_Fixed.l1 lit_2 dist_4 i_5 Q w

def troveref7_Fixed.j3 (lit_2 : Sl) (dist_4 : Sl) (Q : Value → World → Prop) (w : World) : Prop :=
  troveref7_Fixed.j5 lit_2 dist_4 0 Q w

def troveref7_Fixed.j2 (lit_2 : Sl) (Q : Value → World → Prop) (w : World) : Prop :=
  mkK Try.prog 3 w 32 32 fun s4 w5 =>
  troveref7_Fixed.j3 lit_2 s4 Q w5

def troveref7_Fixed.b2 (lit_2 : Sl) (i_3 : Int) (Q : Value → World → Prop) (nx2 : Sl → Int → World → Prop) (w : World) : Prop :=
  br (decide ((i_3 : Int) < 288)) (
  br (decide ((i_3 : Int) < 144)) (
  ixS lit_2.a lit_2.len i_3 1 fun a6 =>
  st w a6 (.int .i64 8) fun w7 =>
  lt (IntKind.i64.wrap (i_3 + 1)) fun x8 =>
  nx2 lit_2 x8 w7) (
  br (decide ((i_3 : Int) < 256)) (
  ixS lit_2.a lit_2.len i_3 1 fun a9 =>
  st w a9 (.int .i64 9) fun w10 =>
  lt (IntKind.i64.wrap (i_3 + 1)) fun x11 =>
  nx2 lit_2 x11 w10) (
  br (decide ((i_3 : Int) < 280)) (
  ixS lit_2.a lit_2.len i_3 1 fun a12 =>
  st w a12 (.int .i64 7) fun w13 =>
  lt (IntKind.i64.wrap (i_3 + 1)) fun x14 =>
  nx2 lit_2 x14 w13) (
  ixS lit_2.a lit_2.len i_3 1 fun a15 =>
  st w a15 (.int .i64 8) fun w16 =>
  lt (IntKind.i64.wrap (i_3 + 1)) fun x17 =>
  nx2 lit_2 x17 w16)))) (
  troveref7_Fixed.j2 lit_2 Q w)

def troveref7_Fixed.l2 (lit_2 : Sl) (i_3 : Int) (Q : Value → World → Prop) (w : World) : Prop :=
  ∃ (I : Int → World → Prop) (μ : Int → World → Nat), I i_3 w ∧ ∀ i_3 : Int, ∀ w : World, I i_3 w → troveref7_Fixed.b2 lit_2 i_3 Q (fun lit_2' i_3' w' => (lit_2' = lit_2) ∧ I i_3' w' ∧ μ i_3' w' < μ i_3 w) w

def troveref7_Fixed.j6 (lit_2 : Sl) (i_3 : Int) (Q : Value → World → Prop) (w : World) : Prop :=
  troveref7_Fixed.l2 lit_2 i_3 Q w

def troveref7_Fixed.j1 (lit_2 : Sl) (Q : Value → World → Prop) (w : World) : Prop :=
  troveref7_Fixed.j6 lit_2 0 Q w

def troveref7_Fixed  (Q : Value → World → Prop) (w : World) : Prop :=
  mkK Try.prog 3 w 288 288 fun s18 w19 =>
  troveref7_Fixed.j1 s18 Q w19

theorem troveref7_Fixed.ok  (Q : Value → World → Prop) (w : World) (h : troveref7_Fixed  Q w) : Calls Try.prog 115 ⟨[]⟩ w (Ret Q) := by
  refine calls_of_wpc [.tmp 0, .tmp 1] Try.func115 rfl rfl rfl rfl ?_
  refine wpc_pre2 hmix (fun ρ w => asL (ρ 2) fun lit_2 => troveref7_Fixed.j1 lit_2 Q w) (Eq.mp (by kernel_rfl) h) ?_
  intro ρ w h
  obtain ⟨lit_2, e2, h⟩ := asL_el h
  refine reroot e2 ?_
  refine wpc_seq (fun ρ w => asL (ρ 2) fun lit_2 => troveref7_Fixed.j2 lit_2 Q w) ?_ ?_
  · skip
    refine wpc_seq (fun ρ w => asL (ρ 2) fun lit_2 => asI .i64 (ρ 3) fun i_3 => troveref7_Fixed.j6 lit_2 i_3 Q w) ?_ ?_
    · skip
      exact pt_sound hmix _ (Eq.mp (by kernel_rfl) h)
    · intro ρ w h
      obtain ⟨lit_2, e2, h⟩ := asL_el h
      obtain ⟨i_3, e3, h⟩ := asI_el h
      refine reroot e2 (reroot (upd_other e3 rfl) ?_)
      refine wpc_block ?_
      obtain ⟨I, μ, hI, hr⟩ := h
      refine wpc_loopS (α := Int) (fun s ρ => ρ 3 = .int .i64 s ∧ ρ 2 = .slice lit_2.a lit_2.len lit_2.cap) (fun s w => I s w) (fun s w => μ s w) i_3 ⟨rfl, rfl⟩ hI ?_
      rintro i_3 ρ w ⟨e3, e2⟩ hI
      have h := hr i_3 w hI
      clear hr
      obtain ⟨nx2, hnx⟩ : ∃ nx : Sl → Int → World → Prop, nx = (fun lit_2' i_3' w' => (lit_2' = lit_2) ∧ I i_3' w' ∧ μ i_3' w' < μ i_3 w) := ⟨_, rfl⟩
      rw [← hnx] at h
      refine wpc_norm (M := fun ρ w => asL (ρ 2) fun lit_2 => asI .i64 (ρ 3) fun i_3 => nx2 lit_2 i_3 w) ?_ (fun ρ w h => ?_)
      · skip
        refine reroot e2 (reroot (upd_other e3 rfl) ?_)
        exact pt_sound hmix _ (Eq.mp (by kernel_rfl) h)
      · skip
        obtain ⟨lit_2', e2', h⟩ := asL_el h
        obtain ⟨i_3', e3', h⟩ := asI_el h
        rw [hnx] at h
        obtain ⟨hu, hI2, hμ⟩ := h
        obtain rfl := hu
        exact ⟨i_3', ⟨e3', e2'⟩, hI2, hμ⟩
  · intro ρ w h
    obtain ⟨lit_2, e2, h⟩ := asL_el h
    refine reroot e2 ?_
    refine wpc_seq (fun ρ w => asL (ρ 2) fun lit_2 => asL (ρ 4) fun dist_4 => troveref7_Fixed.j3 lit_2 dist_4 Q w) ?_ ?_
    · skip
      exact pt_sound hmix _ (Eq.mp (by kernel_rfl) h)
    · intro ρ w h
      obtain ⟨lit_2, e2, h⟩ := asL_el h
      obtain ⟨dist_4, e4, h⟩ := asL_el h
      refine reroot e2 (reroot (upd_other e4 rfl) ?_)
      refine wpc_seq (fun ρ w => asL (ρ 2) fun lit_2 => asL (ρ 4) fun dist_4 => troveref7_Fixed.j4 lit_2 dist_4 Q w) ?_ ?_
      · skip
        refine wpc_seq (fun ρ w => asL (ρ 2) fun lit_2 => asL (ρ 4) fun dist_4 => asI .i64 (ρ 5) fun i_5 => troveref7_Fixed.j5 lit_2 dist_4 i_5 Q w) ?_ ?_
        · skip
          exact pt_sound hmix _ (Eq.mp (by kernel_rfl) h)
        · intro ρ w h
          obtain ⟨lit_2, e2, h⟩ := asL_el h
          obtain ⟨dist_4, e4, h⟩ := asL_el h
          obtain ⟨i_5, e5, h⟩ := asI_el h
          refine reroot e2 (reroot (upd_other e4 rfl) (reroot (upd_other (upd_other e5 rfl) rfl) ?_))
          refine wpc_block ?_
          obtain ⟨I, μ, hI, hr⟩ := h
          refine wpc_loopS (α := Int) (fun s ρ => ρ 5 = .int .i64 s ∧ ρ 2 = .slice lit_2.a lit_2.len lit_2.cap ∧ ρ 4 = .slice dist_4.a dist_4.len dist_4.cap) (fun s w => I s w) (fun s w => μ s w) i_5 ⟨rfl, rfl, rfl⟩ hI ?_
          rintro i_5 ρ w ⟨e5, e2, e4⟩ hI
          have h := hr i_5 w hI
          clear hr
          obtain ⟨nx1, hnx⟩ : ∃ nx : Sl → Sl → Int → World → Prop, nx = (fun lit_2' dist_4' i_5' w' => (lit_2' = lit_2 ∧ dist_4' = dist_4) ∧ I i_5' w' ∧ μ i_5' w' < μ i_5 w) := ⟨_, rfl⟩
          rw [← hnx] at h
          refine wpc_norm (M := fun ρ w => asL (ρ 2) fun lit_2 => asL (ρ 4) fun dist_4 => asI .i64 (ρ 5) fun i_5 => nx1 lit_2 dist_4 i_5 w) ?_ (fun ρ w h => ?_)
          · skip
            refine reroot e2 (reroot (upd_other e4 rfl) (reroot (upd_other (upd_other e5 rfl) rfl) ?_))
            exact pt_sound hmix _ (Eq.mp (by kernel_rfl) h)
          · skip
            obtain ⟨lit_2', e2', h⟩ := asL_el h
            obtain ⟨dist_4', e4', h⟩ := asL_el h
            obtain ⟨i_5', e5', h⟩ := asI_el h
            rw [hnx] at h
            obtain ⟨hu, hI2, hμ⟩ := h
            obtain ⟨rfl, rfl⟩ := hu
            exact ⟨i_5', ⟨e5', e2', e4'⟩, hI2, hμ⟩
      · intro ρ w h
        obtain ⟨lit_2, e2, h⟩ := asL_el h
        obtain ⟨dist_4, e4, h⟩ := asL_el h
        refine reroot e2 (reroot (upd_other e4 rfl) ?_)
        exact pt_sound hmix _ (Eq.mp (by kernel_rfl) h)

/-! trove/troveref7.Length -/
def troveref7_Length (sym_0 : Int) (Q : Value → World → Prop) (w : World) : Prop :=
  lt (⟨World.heapSize w, 0, none⟩ : Addr) fun a1 =>
  lt (World.alloc w (.cells ⟨[.int .i64 3, .int .i64 4, .int .i64 5, .int .i64 6, .int .i64 7, .int .i64 8, .int .i64 9, .int .i64 10, .int .i64 11, .int .i64 13, .int .i64 15, .int .i64 17, .int .i64 19, .int .i64 23, .int .i64 27, .int .i64 31, .int .i64 35, .int .i64 43, .int .i64 51, .int .i64 59, .int .i64 67, .int .i64 83, .int .i64 99, .int .i64 115, .int .i64 131, .int .i64 163, .int .i64 195, .int .i64 227, .int .i64 258]⟩ 3)) fun w2 =>
  lt (⟨World.heapSize w2, 0, none⟩ : Addr) fun a3 =>
  lt (World.alloc w2 (.cells ⟨[.int .i64 0, .int .i64 0, .int .i64 0, .int .i64 0, .int .i64 0, .int .i64 0, .int .i64 0, .int .i64 0, .int .i64 1, .int .i64 1, .int .i64 1, .int .i64 1, .int .i64 2, .int .i64 2, .int .i64 2, .int .i64 2, .int .i64 3, .int .i64 3, .int .i64 3, .int .i64 3, .int .i64 4, .int .i64 4, .int .i64 4, .int .i64 4, .int .i64 5, .int .i64 5, .int .i64 5, .int .i64 5, .int .i64 0]⟩ 3)) fun w4 =>
  br (decide ((sym_0 : Int) < 257)) (
  Q (.tuple ⟨[.int .i64 0, .int .i64 0, .bool false]⟩) w4) (
  br (decide ((sym_0 : Int) > 285)) (
  Q (.tuple ⟨[.int .i64 0, .int .i64 0, .bool false]⟩) w4) (
  lt (World.drew w4) fun w5 =>
  lt (IntKind.i64.wrap (sym_0 - 257)) fun x6 =>
  ixS (some a1) 29 x6 1 fun a7 =>
  ldI .i64 w5 a7 fun x8 =>
  lt (IntKind.i64.wrap (sym_0 - 257)) fun x9 =>
  ixS (some a3) 29 x9 1 fun a10 =>
  ldI .i64 w5 a10 fun x11 =>
  Q (.tuple ⟨[.int .i64 x8, .int .i64 x11, .bool true]⟩) w5))

theorem troveref7_Length.ok (sym_0 : Int) (Q : Value → World → Prop) (w : World) (h : troveref7_Length sym_0 Q w) : Calls Try.prog 117 ⟨[.int .i64 sym_0]⟩ w (Ret Q) := by
  refine calls_of_wpc [.tmp 2, .tmp 3, .tmp 4] Try.func117 rfl rfl rfl rfl ?_
  exact pt_sound hmix _ (Eq.mp (by kernel_rfl) h)

/-! trove/troveref7.Distance -/
def troveref7_Distance (sym_0 : Int) (Q : Value → World → Prop) (w : World) : Prop :=
  lt (⟨World.heapSize w, 0, none⟩ : Addr) fun a1 =>
  lt (World.alloc w (.cells ⟨[.int .i64 1, .int .i64 2, .int .i64 3, .int .i64 4, .int .i64 5, .int .i64 7, .int .i64 9, .int .i64 13, .int .i64 17, .int .i64 25, .int .i64 33, .int .i64 49, .int .i64 65, .int .i64 97, .int .i64 129, .int .i64 193, .int .i64 257, .int .i64 385, .int .i64 513, .int .i64 769, .int .i64 1025, .int .i64 1537, .int .i64 2049, .int .i64 3073, .int .i64 4097, .int .i64 6145, .int .i64 8193, .int .i64 12289, .int .i64 16385, .int .i64 24577]⟩ 3)) fun w2 =>
  lt (⟨World.heapSize w2, 0, none⟩ : Addr) fun a3 =>
  lt (World.alloc w2 (.cells ⟨[.int .i64 0, .int .i64 0, .int .i64 0, .int .i64 0, .int .i64 1, .int .i64 1, .int .i64 2, .int .i64 2, .int .i64 3, .int .i64 3, .int .i64 4, .int .i64 4, .int .i64 5, .int .i64 5, .int .i64 6, .int .i64 6, .int .i64 7, .int .i64 7, .int .i64 8, .int .i64 8, .int .i64 9, .int .i64 9, .int .i64 10, .int .i64 10, .int .i64 11, .int .i64 11, .int .i64 12, .int .i64 12, .int .i64 13, .int .i64 13]⟩ 3)) fun w4 =>
  br (decide ((sym_0 : Int) < 0)) (
  Q (.tuple ⟨[.int .i64 0, .int .i64 0, .bool false]⟩) w4) (
  br (decide ((sym_0 : Int) > 29)) (
  Q (.tuple ⟨[.int .i64 0, .int .i64 0, .bool false]⟩) w4) (
  lt (World.drew w4) fun w5 =>
  ixS (some a1) 30 sym_0 1 fun a6 =>
  ldI .i64 w5 a6 fun x7 =>
  ixS (some a3) 30 sym_0 1 fun a8 =>
  ldI .i64 w5 a8 fun x9 =>
  Q (.tuple ⟨[.int .i64 x7, .int .i64 x9, .bool true]⟩) w5))

theorem troveref7_Distance.ok (sym_0 : Int) (Q : Value → World → Prop) (w : World) (h : troveref7_Distance sym_0 Q w) : Calls Try.prog 119 ⟨[.int .i64 sym_0]⟩ w (Ret Q) := by
  refine calls_of_wpc [.tmp 2, .tmp 3, .tmp 4] Try.func119 rfl rfl rfl rfl ?_
  exact pt_sound hmix _ (Eq.mp (by kernel_rfl) h)

end Go.Proofs.Ytkajimndclhgaaa
