/- PRINTED BY gen.py (own work): what calls come to, and the proofs of it. -/
import Derived.Test.YtkajimndclhgaaaVcJ
import Derived.Test.YtkajimndclhgaaaProg
namespace Go.Proofs.Ytkajimndclhgaaa
open Go Go.Proofs
set_option linter.unusedVariables false
set_option maxRecDepth 100000

/-! trove/troveref8.Check -/
def troveref8_Check.j2  (Q : Value → World → Prop) (w : World) : Prop :=
  Q (.int .i64 0) w

def troveref8_Check.j5 (l_0 : Sl) (n_3 : Int) (i_4 : Int) (Q : Value → World → Prop) (nx1 : Sl → Int → Int → World → Prop) (w : World) : Prop :=
  lt (IntKind.i64.wrap (i_4 + 1)) fun x1 =>
  nx1 l_0 n_3 x1 w

def troveref8_Check.j6 (l_0 : Sl) (n_3 : Int) (i_4 : Int) (t_5 : Addr) (Q : Value → World → Prop) (nx1 : Sl → Int → Int → World → Prop) (w : World) : Prop :=
  ldI .u8 w (Addr.add t_5 0) fun x2 =>
  br ((x2 : Int) != 0) (
  Q (.int .i64 2) w) (
  ldI .i64 w (Addr.add t_5 1) fun x3 =>
  br (decide ((x3 : Int) < 3)) (
  Q (.int .i64 2) w) (
  ldI .i64 w (Addr.add t_5 1) fun x4 =>
  br (decide ((x4 : Int) > 258)) (
  Q (.int .i64 2) w) (
  ldI .i64 w (Addr.add t_5 2) fun x5 =>
  br (decide ((x5 : Int) < 1)) (
  Q (.int .i64 2) w) (
  ldI .i64 w (Addr.add t_5 2) fun x6 =>
  br (decide ((x6 : Int) > 32768)) (
  Q (.int .i64 2) w) (
  ldI .i64 w (Addr.add t_5 2) fun x7 =>
  br (decide ((x7 : Int) > n_3)) (
  Q (.int .i64 2) w) (
  ldI .i64 w (Addr.add t_5 1) fun x8 =>
  lt (IntKind.i64.wrap (n_3 + x8)) fun x9 =>
  troveref8_Check.j5 l_0 x9 i_4 Q nx1 w))))))

def troveref8_Check.j4 (l_0 : Sl) (n_3 : Int) (i_4 : Int) (Q : Value → World → Prop) (nx1 : Sl → Int → Int → World → Prop) (w : World) : Prop :=
  ixS l_0.a l_0.len i_4 3 fun a10 =>
  ldA w a10 3 fun c11 =>
  lt (⟨World.heapSize w, 0, none⟩ : Addr) fun a12 =>
  lt (World.alloc w (.cells (zc Try.prog 158) 158)) fun w13 =>
  (c11).size = 3 ∧
  stA w13 a12 c11 fun w14 =>
  ldI .i64 w14 (Addr.add a12 1) fun x15 =>
  br ((x15 : Int) == 0) (
  ldI .i64 w14 (Addr.add a12 2) fun x16 =>
  br ((x16 : Int) == 0) (
  lt (IntKind.i64.wrap (n_3 + 1)) fun x17 =>
  troveref8_Check.j5 l_0 x17 i_4 Q nx1 w14) (
  troveref8_Check.j6 l_0 n_3 i_4 a12 Q nx1 w14)) (
  troveref8_Check.j6 l_0 n_3 i_4 a12 Q nx1 w14)

def troveref8_Check.b1 (l_0 : Sl) (n_3 : Int) (i_4 : Int) (Q : Value → World → Prop) (nx1 : Sl → Int → Int → World → Prop) (w : World) : Prop :=
  br (decide ((i_4 : Int) < ((l_0.len : Nat) : Int))) (
  troveref8_Check.j4 l_0 n_3 i_4 Q nx1 w) (
  troveref8_Check.j2 Q w)

def troveref8_Check.l1 (l_0 : Sl) (n_3 : Int) (i_4 : Int) (Q : Value → World → Prop) (w : World) : Prop :=
  ∃ (I : Int → Int → World → Prop) (μ : Int → Int → World → Nat), I n_3 i_4 w ∧ ∀ n_3 : Int, ∀ i_4 : Int, ∀ w : World, I n_3 i_4 w → troveref8_Check.b1 l_0 n_3 i_4 Q (fun l_0' n_3' i_4' w' => (l_0' = l_0) ∧ I n_3' i_4' w' ∧ μ n_3' i_4' w' < μ n_3 i_4 w) w

def troveref8_Check.j3 (l_0 : Sl) (n_3 : Int) (i_4 : Int) (Q : Value → World → Prop) (w : World) : Prop :=
  troveref8_Check.l1 l_0 n_3 i_4 Q w

def troveref8_Check.j1 (l_0 : Sl) (n_3 : Int) (Q : Value → World → Prop) (w : World) : Prop :=
  troveref8_Check.j3 l_0 n_3 0 Q w

def troveref8_Check (l_0 : Sl) (Q : Value → World → Prop) (w : World) : Prop :=
  troveref8_Check.j1 l_0 0 Q w

theorem troveref8_Check.ok (l_0 : Sl) (Q : Value → World → Prop) (w : World) (h : troveref8_Check l_0 Q w) : Calls Try.prog 69 ⟨[.slice l_0.a l_0.len l_0.cap]⟩ w (Ret Q) := by
  refine calls_of_wpc [.tmp 2] Try.func69 rfl rfl rfl rfl ?_
  refine wpc_pre2 hmix (fun ρ w => asL (ρ 0) fun l_0 => asI .i64 (ρ 3) fun n_3 => troveref8_Check.j1 l_0 n_3 Q w) (Eq.mp (by kernel_rfl) h) ?_
  intro ρ w h
  obtain ⟨l_0, e0, h⟩ := asL_el h
  obtain ⟨n_3, e3, h⟩ := asI_el h
  refine reroot e0 (reroot (upd_other e3 rfl) ?_)
  refine wpc_seq (fun ρ w =>  troveref8_Check.j2  Q w) ?_ ?_
  · skip
    refine wpc_seq (fun ρ w => asL (ρ 0) fun l_0 => asI .i64 (ρ 3) fun n_3 => asI .i64 (ρ 4) fun i_4 => troveref8_Check.j3 l_0 n_3 i_4 Q w) ?_ ?_
    · skip
      exact pt_sound hmix _ (Eq.mp (by kernel_rfl) h)
    · intro ρ w h
      obtain ⟨l_0, e0, h⟩ := asL_el h
      obtain ⟨n_3, e3, h⟩ := asI_el h
      obtain ⟨i_4, e4, h⟩ := asI_el h
      refine reroot e0 (reroot (upd_other e3 rfl) (reroot (upd_other (upd_other e4 rfl) rfl) ?_))
      refine wpc_block ?_
      obtain ⟨I, μ, hI, hr⟩ := h
      refine wpc_loopS (α := Int × Int) (fun s ρ => ρ 3 = .int .i64 s.1 ∧ ρ 4 = .int .i64 s.2 ∧ ρ 0 = .slice l_0.a l_0.len l_0.cap) (fun s w => I s.1 s.2 w) (fun s w => μ s.1 s.2 w) (n_3, i_4) ⟨rfl, rfl, rfl⟩ hI ?_
      rintro ⟨n_3, i_4⟩ ρ w ⟨e3, e4, e0⟩ hI
      have h := hr n_3 i_4 w hI
      clear hr
      obtain ⟨nx1, hnx⟩ : ∃ nx : Sl → Int → Int → World → Prop, nx = (fun l_0' n_3' i_4' w' => (l_0' = l_0) ∧ I n_3' i_4' w' ∧ μ n_3' i_4' w' < μ n_3 i_4 w) := ⟨_, rfl⟩
      rw [← hnx] at h
      refine wpc_norm (M := fun ρ w => asL (ρ 0) fun l_0 => asI .i64 (ρ 3) fun n_3 => asI .i64 (ρ 4) fun i_4 => nx1 l_0 n_3 i_4 w) ?_ (fun ρ w h => ?_)
      · skip
        refine reroot e0 (reroot (upd_other e3 rfl) (reroot (upd_other (upd_other e4 rfl) rfl) ?_))
        refine wpc_seq (fun ρ w => asL (ρ 0) fun l_0 => asI .i64 (ρ 3) fun n_3 => asI .i64 (ρ 4) fun i_4 => troveref8_Check.j4 l_0 n_3 i_4 Q nx1 w) ?_ ?_
        · skip
          exact pt_sound hmix _ (Eq.mp (by kernel_rfl) h)
        · intro ρ w h
          obtain ⟨l_0, e0, h⟩ := asL_el h
          obtain ⟨n_3, e3, h⟩ := asI_el h
          obtain ⟨i_4, e4, h⟩ := asI_el h
          refine reroot e0 (reroot (upd_other e3 rfl) (reroot (upd_other (upd_other e4 rfl) rfl) ?_))
          refine wpc_seq (fun ρ w => asL (ρ 0) fun l_0 => asI .i64 (ρ 3) fun n_3 => asI .i64 (ρ 4) fun i_4 => troveref8_Check.j5 l_0 n_3 i_4 Q nx1 w) ?_ ?_
          · skip
            refine wpc_block ?_
            refine wpc_pre2 hmix (fun ρ w => asL (ρ 0) fun l_0 => asI .i64 (ρ 3) fun n_3 => asI .i64 (ρ 4) fun i_4 => asA (ρ 5) fun t_5 => troveref8_Check.j6 l_0 n_3 i_4 t_5 Q nx1 w) (Eq.mp (by kernel_rfl) h) ?_
            intro ρ w h
            obtain ⟨l_0, e0, h⟩ := asL_el h
            obtain ⟨n_3, e3, h⟩ := asI_el h
            obtain ⟨i_4, e4, h⟩ := asI_el h
            obtain ⟨t_5, e5, h⟩ := asA_el h
            refine reroot e0 (reroot (upd_other e3 rfl) (reroot (upd_other (upd_other e4 rfl) rfl) (reroot (upd_other (upd_other (upd_other e5 rfl) rfl) rfl) ?_)))
            exact pt_sound hmix _ (Eq.mp (by kernel_rfl) h)
          · intro ρ w h
            obtain ⟨l_0, e0, h⟩ := asL_el h
            obtain ⟨n_3, e3, h⟩ := asI_el h
            obtain ⟨i_4, e4, h⟩ := asI_el h
            refine reroot e0 (reroot (upd_other e3 rfl) (reroot (upd_other (upd_other e4 rfl) rfl) ?_))
            exact pt_sound hmix _ (Eq.mp (by kernel_rfl) h)
      · skip
        obtain ⟨l_0', e0', h⟩ := asL_el h
        obtain ⟨n_3', e3', h⟩ := asI_el h
        obtain ⟨i_4', e4', h⟩ := asI_el h
        rw [hnx] at h
        obtain ⟨hu, hI2, hμ⟩ := h
        obtain rfl := hu
        exact ⟨(n_3', i_4'), ⟨e3', e4', e0'⟩, hI2, hμ⟩
  · intro ρ w h
    exact pt_sound hmix _ (Eq.mp (by kernel_rfl) h)

/-! trove/troveref8.Size -/
def troveref8_Size.j2 (n_3 : Int) (Q : Value → World → Prop) (w : World) : Prop :=
  Q (.int .i64 n_3) w

def troveref8_Size.j5 (l_0 : Sl) (n_3 : Int) (i_4 : Int) (Q : Value → World → Prop) (nx1 : Sl → Int → Int → World → Prop) (w : World) : Prop :=
  lt (IntKind.i64.wrap (i_4 + 1)) fun x1 =>
  nx1 l_0 n_3 x1 w

def troveref8_Size.j6 (l_0 : Sl) (n_3 : Int) (i_4 : Int) (Q : Value → World → Prop) (nx1 : Sl → Int → Int → World → Prop) (w : World) : Prop :=
  br (decide ((n_3 : Int) > 262144)) (
  Q (.int .i64 262145) w) (
  troveref8_Size.j5 l_0 n_3 i_4 Q nx1 w)

def troveref8_Size.j8 (l_0 : Sl) (n_3 : Int) (i_4 : Int) (t20 : Bool) (Q : Value → World → Prop) (nx1 : Sl → Int → Int → World → Prop) (w : World) : Prop :=
  br t20 (
  ixS l_0.a l_0.len i_4 3 fun a3 =>
  ldI .i64 w (Addr.add a3 1) fun x4 =>
  lt (IntKind.i64.wrap (n_3 + x4)) fun x5 =>
  troveref8_Size.j6 l_0 x5 i_4 Q nx1 w) (
  troveref8_Size.j6 l_0 n_3 i_4 Q nx1 w)

def troveref8_Size.j7 (l_0 : Sl) (n_3 : Int) (i_4 : Int) (t11 : Bool) (Q : Value → World → Prop) (nx1 : Sl → Int → Int → World → Prop) (w : World) : Prop :=
  br t11 (
  lt (IntKind.i64.wrap (n_3 + 1)) fun x2 =>
  troveref8_Size.j6 l_0 x2 i_4 Q nx1 w) (
  ixS l_0.a l_0.len i_4 3 fun a6 =>
  ldI .i64 w (Addr.add a6 1) fun x7 =>
  br (decide ((x7 : Int) > 0)) (
  ixS l_0.a l_0.len i_4 3 fun a8 =>
  ldI .i64 w (Addr.add a8 1) fun x9 =>
  troveref8_Size.j8 l_0 n_3 i_4 (decide ((x9 : Int) ≤ 258)) Q nx1 w) (
  troveref8_Size.j8 l_0 n_3 i_4 false Q nx1 w))

def troveref8_Size.j4 (l_0 : Sl) (n_3 : Int) (i_4 : Int) (Q : Value → World → Prop) (nx1 : Sl → Int → Int → World → Prop) (w : World) : Prop :=
  ixS l_0.a l_0.len i_4 3 fun a10 =>
  ldI .i64 w (Addr.add a10 1) fun x11 =>
  troveref8_Size.j7 l_0 n_3 i_4 ((x11 : Int) == 0) Q nx1 w

def troveref8_Size.b1 (l_0 : Sl) (n_3 : Int) (i_4 : Int) (Q : Value → World → Prop) (nx1 : Sl → Int → Int → World → Prop) (w : World) : Prop :=
  br (decide ((i_4 : Int) < ((l_0.len : Nat) : Int))) (
  troveref8_Size.j4 l_0 n_3 i_4 Q nx1 w) (
  troveref8_Size.j2 n_3 Q w)

def troveref8_Size.l1 (l_0 : Sl) (n_3 : Int) (i_4 : Int) (Q : Value → World → Prop) (w : World) : Prop :=
  ∃ (I : Int → Int → World → Prop) (μ : Int → Int → World → Nat), I n_3 i_4 w ∧ ∀ n_3 : Int, ∀ i_4 : Int, ∀ w : World, I n_3 i_4 w → troveref8_Size.b1 l_0 n_3 i_4 Q (fun l_0' n_3' i_4' w' => (l_0' = l_0) ∧ I n_3' i_4' w' ∧ μ n_3' i_4' w' < μ n_3 i_4 w) w

def troveref8_Size.j3 (l_0 : Sl) (n_3 : Int) (i_4 : Int) (Q : Value → World → Prop) (w : World) : Prop :=
  troveref8_Size.l1 l_0 n_3 i_4 Q w

def troveref8_Size.j1 (l_0 : Sl) (n_3 : Int) (Q : Value → World → Prop) (w : World) : Prop :=
  troveref8_Size.j3 l_0 n_3 0 Q w

def troveref8_Size (l_0 : Sl) (Q : Value → World → Prop) (w : World) : Prop :=
  troveref8_Size.j1 l_0 0 Q w

theorem troveref8_Size.ok (l_0 : Sl) (Q : Value → World → Prop) (w : World) (h : troveref8_Size l_0 Q w) : Calls Try.prog 71 ⟨[.slice l_0.a l_0.len l_0.cap]⟩ w (Ret Q) := by
  refine calls_of_wpc [.tmp 2] Try.func71 rfl rfl rfl rfl ?_
  refine wpc_pre2 hmix (fun ρ w => asL (ρ 0) fun l_0 => asI .i64 (ρ 3) fun n_3 => troveref8_Size.j1 l_0 n_3 Q w) (Eq.mp (by kernel_rfl) h) ?_
  intro ρ w h
  obtain ⟨l_0, e0, h⟩ := asL_el h
  obtain ⟨n_3, e3, h⟩ := asI_el h
  refine reroot e0 (reroot (upd_other e3 rfl) ?_)
  refine wpc_seq (fun ρ w => asI .i64 (ρ 3) fun n_3 => troveref8_Size.j2 n_3 Q w) ?_ ?_
  · skip
    refine wpc_seq (fun ρ w => asL (ρ 0) fun l_0 => asI .i64 (ρ 3) fun n_3 => asI .i64 (ρ 4) fun i_4 => troveref8_Size.j3 l_0 n_3 i_4 Q w) ?_ ?_
    · skip
      exact pt_sound hmix _ (Eq.mp (by kernel_rfl) h)
    · intro ρ w h
      obtain ⟨l_0, e0, h⟩ := asL_el h
      obtain ⟨n_3, e3, h⟩ := asI_el h
      obtain ⟨i_4, e4, h⟩ := asI_el h
      refine reroot e0 (reroot (upd_other e3 rfl) (reroot (upd_other (upd_other e4 rfl) rfl) ?_))
      refine wpc_block ?_
      obtain ⟨I, μ, hI, hr⟩ := h
      refine wpc_loopS (α := Int × Int) (fun s ρ => ρ 3 = .int .i64 s.1 ∧ ρ 4 = .int .i64 s.2 ∧ ρ 0 = .slice l_0.a l_0.len l_0.cap) (fun s w => I s.1 s.2 w) (fun s w => μ s.1 s.2 w) (n_3, i_4) ⟨rfl, rfl, rfl⟩ hI ?_
      rintro ⟨n_3, i_4⟩ ρ w ⟨e3, e4, e0⟩ hI
      have h := hr n_3 i_4 w hI
      clear hr
      obtain ⟨nx1, hnx⟩ : ∃ nx : Sl → Int → Int → World → Prop, nx = (fun l_0' n_3' i_4' w' => (l_0' = l_0) ∧ I n_3' i_4' w' ∧ μ n_3' i_4' w' < μ n_3 i_4 w) := ⟨_, rfl⟩
      rw [← hnx] at h
      refine wpc_norm (M := fun ρ w => asL (ρ 0) fun l_0 => asI .i64 (ρ 3) fun n_3 => asI .i64 (ρ 4) fun i_4 => nx1 l_0 n_3 i_4 w) ?_ (fun ρ w h => ?_)
      · skip
        refine reroot e0 (reroot (upd_other e3 rfl) (reroot (upd_other (upd_other e4 rfl) rfl) ?_))
        refine wpc_seq (fun ρ w => asL (ρ 0) fun l_0 => asI .i64 (ρ 3) fun n_3 => asI .i64 (ρ 4) fun i_4 => troveref8_Size.j4 l_0 n_3 i_4 Q nx1 w) ?_ ?_
        · skip
          exact pt_sound hmix _ (Eq.mp (by kernel_rfl) h)
        · intro ρ w h
          obtain ⟨l_0, e0, h⟩ := asL_el h
          obtain ⟨n_3, e3, h⟩ := asI_el h
          obtain ⟨i_4, e4, h⟩ := asI_el h
          refine reroot e0 (reroot (upd_other e3 rfl) (reroot (upd_other (upd_other e4 rfl) rfl) ?_))
          refine wpc_seq (fun ρ w => asL (ρ 0) fun l_0 => asI .i64 (ρ 3) fun n_3 => asI .i64 (ρ 4) fun i_4 => troveref8_Size.j5 l_0 n_3 i_4 Q nx1 w) ?_ ?_
          · skip
            refine wpc_block ?_
            refine wpc_seq (fun ρ w => asL (ρ 0) fun l_0 => asI .i64 (ρ 3) fun n_3 => asI .i64 (ρ 4) fun i_4 => troveref8_Size.j6 l_0 n_3 i_4 Q nx1 w) ?_ ?_
            · skip
              refine wpc_block ?_
              refine wpc_seq (fun ρ w => asL (ρ 0) fun l_0 => asI .i64 (ρ 3) fun n_3 => asI .i64 (ρ 4) fun i_4 => asB (ρ 11) fun t11 => troveref8_Size.j7 l_0 n_3 i_4 t11 Q nx1 w) ?_ ?_
              · skip
                exact pt_sound hmix _ (Eq.mp (by kernel_rfl) h)
              · intro ρ w h
                obtain ⟨l_0, e0, h⟩ := asL_el h
                obtain ⟨n_3, e3, h⟩ := asI_el h
                obtain ⟨i_4, e4, h⟩ := asI_el h
                obtain ⟨t11, e11, h⟩ := asB_el h
                refine reroot e0 (reroot (upd_other e3 rfl) (reroot (upd_other (upd_other e4 rfl) rfl) (reroot (upd_other (upd_other (upd_other e11 rfl) rfl) rfl) ?_)))
                refine wpc_cond (b := t11) rfl (fun hb => ?_) (fun hb => ?_)
                · have h := br_t h hb
                  exact pt_sound hmix _ (Eq.mp (by kernel_rfl) h)
                · have h := br_f h hb
                  refine wpc_seq (fun ρ w => asL (ρ 0) fun l_0 => asI .i64 (ρ 3) fun n_3 => asI .i64 (ρ 4) fun i_4 => asB (ρ 20) fun t20 => troveref8_Size.j8 l_0 n_3 i_4 t20 Q nx1 w) ?_ ?_
                  · skip
                    exact pt_sound hmix _ (Eq.mp (by kernel_rfl) h)
                  · intro ρ w h
                    obtain ⟨l_0, e0, h⟩ := asL_el h
                    obtain ⟨n_3, e3, h⟩ := asI_el h
                    obtain ⟨i_4, e4, h⟩ := asI_el h
                    obtain ⟨t20, e20, h⟩ := asB_el h
                    refine reroot e0 (reroot (upd_other e3 rfl) (reroot (upd_other (upd_other e4 rfl) rfl) (reroot (upd_other (upd_other (upd_other e20 rfl) rfl) rfl) ?_)))
                    exact pt_sound hmix _ (Eq.mp (by kernel_rfl) h)
            · intro ρ w h
              obtain ⟨l_0, e0, h⟩ := asL_el h
              obtain ⟨n_3, e3, h⟩ := asI_el h
              obtain ⟨i_4, e4, h⟩ := asI_el h
              refine reroot e0 (reroot (upd_other e3 rfl) (reroot (upd_other (upd_other e4 rfl) rfl) ?_))
              exact pt_sound hmix _ (Eq.mp (by kernel_rfl) h)
          · intro ρ w h
            obtain ⟨l_0, e0, h⟩ := asL_el h
            obtain ⟨n_3, e3, h⟩ := asI_el h
            obtain ⟨i_4, e4, h⟩ := asI_el h
            refine reroot e0 (reroot (upd_other e3 rfl) (reroot (upd_other (upd_other e4 rfl) rfl) ?_))
            exact pt_sound hmix _ (Eq.mp (by kernel_rfl) h)
      · skip
        obtain ⟨l_0', e0', h⟩ := asL_el h
        obtain ⟨n_3', e3', h⟩ := asI_el h
        obtain ⟨i_4', e4', h⟩ := asI_el h
        rw [hnx] at h
        obtain ⟨hu, hI2, hμ⟩ := h
        obtain rfl := hu
        exact ⟨(n_3', i_4'), ⟨e3', e4', e0'⟩, hI2, hμ⟩
  · intro ρ w h
    obtain ⟨n_3, e3, h⟩ := asI_el h
    refine reroot e3 ?_
    exact pt_sound hmix _ (Eq.mp (by kernel_rfl) h)

/-! trove/troveref8.Expand -/
def troveref8_Expand.j3 (i_1 : Int) (t6 : Sl) (Q : Value → World → Prop) (w : World) : Prop :=
  br (decide ((i_1 : Int) < 0)) (
  Q (.tuple ⟨[.slice none 0 0, .int .i64 5]⟩) w) (
  Q (.tuple ⟨[.slice t6.a t6.len t6.cap, .int .i64 0]⟩) w)

def troveref8_Expand.j6 (d_0 : Sl) (i_1 : Int) (t6 : Sl) (t7 : Int) (Q : Value → World → Prop) (nx1 : Sl → Int → Sl → Int → World → Prop) (w : World) : Prop :=
  lt (IntKind.i64.wrap (t7 + 1)) fun x1 =>
  nx1 d_0 i_1 t6 x1 w

def troveref8_Expand.b2 (d_0 : Sl) (i_1 : Int) (t7 : Int) (t8 : Int) (t6 : Sl) (t9 : Int) (Q : Value → World → Prop) (nx1 : Sl → Int → Sl → Int → World → Prop) (nx2 : Sl → Int → Int → Int → Sl → Int → World → Prop) (w : World) : Prop :=
  br (decide ((t9 : Int) < t8)) (
  ixS d_0.a d_0.len t7 3 fun a2 =>
  ldI .i64 w (Addr.add a2 2) fun x3 =>
  lt (IntKind.i64.wrap (((t6.len : Nat) : Int) - x3)) fun x4 =>
  ixS t6.a t6.len x4 1 fun a5 =>
  ldI .u8 w a5 fun x6 =>
  lt (⟨World.heapSize w, 0, none⟩ : Addr) fun a7 =>
  lt (World.alloc w (.cells ⟨[.int .u8 x6]⟩ 5)) fun w8 =>
  rdO w8 (some a7) (1 * 1) fun c9 =>
  apK Try.prog 5 w8 t6.a t6.len t6.cap 1 c9 fun s10 w11 =>
  lt (IntKind.i64.wrap (t9 + 1)) fun x12 =>
  nx2 d_0 i_1 t7 t8 s10 x12 w11) (
  troveref8_Expand.j6 d_0 i_1 t6 t7 Q nx1 w)

def troveref8_Expand.l2 (d_0 : Sl) (i_1 : Int) (t7 : Int) (t8 : Int) (t6 : Sl) (t9 : Int) (Q : Value → World → Prop) (nx1 : Sl → Int → Sl → Int → World → Prop) (w : World) : Prop :=
  ∃ (I : Sl → Int → World → Prop) (μ : Sl → Int → World → Nat), I t6 t9 w ∧ ∀ t6 : Sl, ∀ t9 : Int, ∀ w : World, I t6 t9 w → troveref8_Expand.b2 d_0 i_1 t7 t8 t6 t9 Q nx1 (fun d_0' i_1' t7' t8' t6' t9' w' => (d_0' = d_0 ∧ i_1' = i_1 ∧ t7' = t7 ∧ t8' = t8) ∧ I t6' t9' w' ∧ μ t6' t9' w' < μ t6 t9 w) w

def troveref8_Expand.j9 (d_0 : Sl) (i_1 : Int) (t6 : Sl) (t7 : Int) (t8 : Int) (t9 : Int) (Q : Value → World → Prop) (nx1 : Sl → Int → Sl → Int → World → Prop) (w : World) : Prop :=
  troveref8_Expand.l2 d_0 i_1 t7 t8 t6 t9 Q nx1 w

def troveref8_Expand.j8 (d_0 : Sl) (i_1 : Int) (t6 : Sl) (t7 : Int) (t8 : Int) (Q : Value → World → Prop) (nx1 : Sl → Int → Sl → Int → World → Prop) (w : World) : Prop :=
  ixS d_0.a d_0.len t7 3 fun a13 =>
  ldI .i64 w (Addr.add a13 1) fun x14 =>
  br ((x14 : Int) == 0) (
  ixS d_0.a d_0.len t7 3 fun a15 =>
  ldI .u8 w (Addr.add a15 0) fun x16 =>
  lt (⟨World.heapSize w, 0, none⟩ : Addr) fun a17 =>
  lt (World.alloc w (.cells ⟨[.int .u8 x16]⟩ 5)) fun w18 =>
  rdO w18 (some a17) (1 * 1) fun c19 =>
  apK Try.prog 5 w18 t6.a t6.len t6.cap 1 c19 fun s20 w21 =>
  troveref8_Expand.j6 d_0 i_1 s20 t7 Q nx1 w21) (
  troveref8_Expand.j9 d_0 i_1 t6 t7 t8 0 Q nx1 w)

def troveref8_Expand.j7 (d_0 : Sl) (i_1 : Int) (t6 : Sl) (t7 : Int) (t8 : Int) (Q : Value → World → Prop) (nx1 : Sl → Int → Sl → Int → World → Prop) (w : World) : Prop :=
  lt (IntKind.i64.wrap (i_1 - ((t6.len : Nat) : Int))) fun x22 =>
  br (decide ((t8 : Int) > x22)) (
  Q (.tuple ⟨[.slice none 0 0, .int .i64 5]⟩) w) (
  br (decide ((i_1 : Int) < 0)) (
  Q (.tuple ⟨[.slice none 0 0, .int .i64 5]⟩) w) (
  troveref8_Expand.j8 d_0 i_1 t6 t7 t8 Q nx1 w))

def troveref8_Expand.j5 (d_0 : Sl) (i_1 : Int) (t6 : Sl) (t7 : Int) (Q : Value → World → Prop) (nx1 : Sl → Int → Sl → Int → World → Prop) (w : World) : Prop :=
  ixS d_0.a d_0.len t7 3 fun a23 =>
  ldI .i64 w (Addr.add a23 1) fun x24 =>
  br ((x24 : Int) == 0) (
  troveref8_Expand.j7 d_0 i_1 t6 t7 1 Q nx1 w) (
  troveref8_Expand.j7 d_0 i_1 t6 t7 x24 Q nx1 w)

def troveref8_Expand.b1 (d_0 : Sl) (i_1 : Int) (t6 : Sl) (t7 : Int) (Q : Value → World → Prop) (nx1 : Sl → Int → Sl → Int → World → Prop) (w : World) : Prop :=
  br (decide ((t7 : Int) < ((d_0.len : Nat) : Int))) (
  troveref8_Expand.j5 d_0 i_1 t6 t7 Q nx1 w) (
  troveref8_Expand.j3 i_1 t6 Q w)

def troveref8_Expand.l1 (d_0 : Sl) (i_1 : Int) (t6 : Sl) (t7 : Int) (Q : Value → World → Prop) (w : World) : Prop :=
  ∃ (I : Sl → Int → World → Prop) (μ : Sl → Int → World → Nat), I t6 t7 w ∧ ∀ t6 : Sl, ∀ t7 : Int, ∀ w : World, I t6 t7 w → troveref8_Expand.b1 d_0 i_1 t6 t7 Q (fun d_0' i_1' t6' t7' w' => (d_0' = d_0 ∧ i_1' = i_1) ∧ I t6' t7' w' ∧ μ t6' t7' w' < μ t6 t7 w) w

def troveref8_Expand.j4 (d_0 : Sl) (i_1 : Int) (t6 : Sl) (t7 : Int) (Q : Value → World → Prop) (w : World) : Prop :=
  troveref8_Expand.l1 d_0 i_1 t6 t7 Q w

def troveref8_Expand.j2 (d_0 : Sl) (i_1 : Int) (t6 : Sl) (Q : Value → World → Prop) (w : World) : Prop :=
  troveref8_Expand.j4 d_0 i_1 t6 0 Q w

def troveref8_Expand.j1 (d_0 : Sl) (i_1 : Int) (Q : Value → World → Prop) (w : World) : Prop :=
  Calls Try.prog 69 ⟨[.slice d_0.a d_0.len d_0.cap]⟩ w fun e25 w26 =>
  ∃ r27 : Int, e25 = .returned (.int .i64 r27) ∧
  br ((r27 : Int) != 0) (
  Q (.tuple ⟨[.slice none 0 0, .int .i64 2]⟩) w26) (
  troveref8_Expand.j2 d_0 i_1 ⟨none, 0, 0⟩ Q w26)

def troveref8_Expand (d_0 : Sl) (i_1 : Int) (Q : Value → World → Prop) (w : World) : Prop :=
  troveref8_Expand.j1 d_0 i_1 Q w

theorem troveref8_Expand.ok (d_0 : Sl) (i_1 : Int) (Q : Value → World → Prop) (w : World) (h : troveref8_Expand d_0 i_1 Q w) : Calls Try.prog 67 ⟨[.slice d_0.a d_0.len d_0.cap, .int .i64 i_1]⟩ w (Ret Q) := by
  refine calls_of_wpc [.tmp 4, .tmp 5] Try.func67 rfl rfl rfl rfl ?_
  refine wpc_seq (fun ρ w => asL (ρ 0) fun d_0 => asI .i64 (ρ 1) fun i_1 => troveref8_Expand.j1 d_0 i_1 Q w) ?_ ?_
  · skip
    exact pt_sound hmix _ (Eq.mp (by kernel_rfl) h)
  · intro ρ w h
    obtain ⟨d_0, e0, h⟩ := asL_el h
    obtain ⟨i_1, e1, h⟩ := asI_el h
    refine reroot e0 (reroot (upd_other e1 rfl) ?_)
    refine wpc_pre2 hmix (fun ρ w => asL (ρ 0) fun d_0 => asI .i64 (ρ 1) fun i_1 => asL (ρ 6) fun t6 => troveref8_Expand.j2 d_0 i_1 t6 Q w) (Eq.mp (by kernel_rfl) h) ?_
    intro ρ w h
    obtain ⟨d_0, e0, h⟩ := asL_el h
    obtain ⟨i_1, e1, h⟩ := asI_el h
    obtain ⟨t6, e6, h⟩ := asL_el h
    refine reroot e0 (reroot (upd_other e1 rfl) (reroot (upd_other (upd_other e6 rfl) rfl) ?_))
    refine wpc_seq (fun ρ w => asI .i64 (ρ 1) fun i_1 => asL (ρ 6) fun t6 => troveref8_Expand.j3 i_1 t6 Q w) ?_ ?_
    · skip
      refine wpc_seq (fun ρ w => asL (ρ 0) fun d_0 => asI .i64 (ρ 1) fun i_1 => asL (ρ 6) fun t6 => asI .i64 (ρ 7) fun t7 => troveref8_Expand.j4 d_0 i_1 t6 t7 Q w) ?_ ?_
      · skip
        exact pt_sound hmix _ (Eq.mp (by kernel_rfl) h)
      · intro ρ w h
        obtain ⟨d_0, e0, h⟩ := asL_el h
        obtain ⟨i_1, e1, h⟩ := asI_el h
        obtain ⟨t6, e6, h⟩ := asL_el h
        obtain ⟨t7, e7, h⟩ := asI_el h
        refine reroot e0 (reroot (upd_other e1 rfl) (reroot (upd_other (upd_other e6 rfl) rfl) (reroot (upd_other (upd_other (upd_other e7 rfl) rfl) rfl) ?_)))
        refine wpc_block ?_
        obtain ⟨I, μ, hI, hr⟩ := h
        refine wpc_loopS (α := Sl × Int) (fun s ρ => ρ 6 = .slice s.1.a s.1.len s.1.cap ∧ ρ 7 = .int .i64 s.2 ∧ ρ 0 = .slice d_0.a d_0.len d_0.cap ∧ ρ 1 = .int .i64 i_1) (fun s w => I s.1 s.2 w) (fun s w => μ s.1 s.2 w) (t6, t7) ⟨rfl, rfl, rfl, rfl⟩ hI ?_
        rintro ⟨t6, t7⟩ ρ w ⟨e6, e7, e0, e1⟩ hI
        have h := hr t6 t7 w hI
        clear hr
        obtain ⟨nx1, hnx⟩ : ∃ nx : Sl → Int → Sl → Int → World → Prop, nx = (fun d_0' i_1' t6' t7' w' => (d_0' = d_0 ∧ i_1' = i_1) ∧ I t6' t7' w' ∧ μ t6' t7' w' < μ t6 t7 w) := ⟨_, rfl⟩
        rw [← hnx] at h
        refine wpc_norm (M := fun ρ w => asL (ρ 0) fun d_0 => asI .i64 (ρ 1) fun i_1 => asL (ρ 6) fun t6 => asI .i64 (ρ 7) fun t7 => nx1 d_0 i_1 t6 t7 w) ?_ (fun ρ w h => ?_)
        · skip
          refine reroot e0 (reroot (upd_other e1 rfl) (reroot (upd_other (upd_other e6 rfl) rfl) (reroot (upd_other (upd_other (upd_other e7 rfl) rfl) rfl) ?_)))
          refine wpc_seq (fun ρ w => asL (ρ 0) fun d_0 => asI .i64 (ρ 1) fun i_1 => asL (ρ 6) fun t6 => asI .i64 (ρ 7) fun t7 => troveref8_Expand.j5 d_0 i_1 t6 t7 Q nx1 w) ?_ ?_
          · skip
            exact pt_sound hmix _ (Eq.mp (by kernel_rfl) h)
          · intro ρ w h
            obtain ⟨d_0, e0, h⟩ := asL_el h
            obtain ⟨i_1, e1, h⟩ := asI_el h
            obtain ⟨t6, e6, h⟩ := asL_el h
            obtain ⟨t7, e7, h⟩ := asI_el h
            refine reroot e0 (reroot (upd_other e1 rfl) (reroot (upd_other (upd_other e6 rfl) rfl) (reroot (upd_other (upd_other (upd_other e7 rfl) rfl) rfl) ?_)))
            refine wpc_seq (fun ρ w => asL (ρ 0) fun d_0 => asI .i64 (ρ 1) fun i_1 => asL (ρ 6) fun t6 => asI .i64 (ρ 7) fun t7 => troveref8_Expand.j6 d_0 i_1 t6 t7 Q nx1 w) ?_ ?_
            · skip
              refine wpc_block ?_
              refine wpc_pre2 hmix (fun ρ w => asL (ρ 0) fun d_0 => asI .i64 (ρ 1) fun i_1 => asL (ρ 6) fun t6 => asI .i64 (ρ 7) fun t7 => asI .i64 (ρ 8) fun t8 => troveref8_Expand.j7 d_0 i_1 t6 t7 t8 Q nx1 w) (Eq.mp (by kernel_rfl) h) ?_
              intro ρ w h
              obtain ⟨d_0, e0, h⟩ := asL_el h
              obtain ⟨i_1, e1, h⟩ := asI_el h
              obtain ⟨t6, e6, h⟩ := asL_el h
              obtain ⟨t7, e7, h⟩ := asI_el h
              obtain ⟨t8, e8, h⟩ := asI_el h
              refine reroot e0 (reroot (upd_other e1 rfl) (reroot (upd_other (upd_other e6 rfl) rfl) (reroot (upd_other (upd_other (upd_other e7 rfl) rfl) rfl) (reroot (upd_other (upd_other (upd_other (upd_other e8 rfl) rfl) rfl) rfl) ?_))))
              refine wpc_seq (fun ρ w => asL (ρ 0) fun d_0 => asI .i64 (ρ 1) fun i_1 => asL (ρ 6) fun t6 => asI .i64 (ρ 7) fun t7 => asI .i64 (ρ 8) fun t8 => troveref8_Expand.j8 d_0 i_1 t6 t7 t8 Q nx1 w) ?_ ?_
              · skip
                exact pt_sound hmix _ (Eq.mp (by kernel_rfl) h)
              · intro ρ w h
                obtain ⟨d_0, e0, h⟩ := asL_el h
                obtain ⟨i_1, e1, h⟩ := asI_el h
                obtain ⟨t6, e6, h⟩ := asL_el h
                obtain ⟨t7, e7, h⟩ := asI_el h
                obtain ⟨t8, e8, h⟩ := asI_el h
                refine reroot e0 (reroot (upd_other e1 rfl) (reroot (upd_other (upd_other e6 rfl) rfl) (reroot (upd_other (upd_other (upd_other e7 rfl) rfl) rfl) (reroot (upd_other (upd_other (upd_other (upd_other e8 rfl) rfl) rfl) rfl) ?_))))
                refine wpc_pre2 hmix (fun ρ w => asL (ρ 0) fun d_0 => asI .i64 (ρ 1) fun i_1 => asL (ρ 6) fun t6 => asI .i64 (ρ 7) fun t7 => asI .i64 (ρ 8) fun t8 => asI .i64 (ρ 9) fun t9 => troveref8_Expand.j9 d_0 i_1 t6 t7 t8 t9 Q nx1 w) (Eq.mp (by kernel_rfl) h) ?_
                intro ρ w h
                obtain ⟨d_0, e0, h⟩ := asL_el h
                obtain ⟨i_1, e1, h⟩ := asI_el h
                obtain ⟨t6, e6, h⟩ := asL_el h
                obtain ⟨t7, e7, h⟩ := asI_el h
                obtain ⟨t8, e8, h⟩ := asI_el h
                obtain ⟨t9, e9, h⟩ := asI_el h
                refine reroot e0 (reroot (upd_other e1 rfl) (reroot (upd_other (upd_other e6 rfl) rfl) (reroot (upd_other (upd_other (upd_other e7 rfl) rfl) rfl) (reroot (upd_other (upd_other (upd_other (upd_other e8 rfl) rfl) rfl) rfl) (reroot (upd_other (upd_other (upd_other (upd_other (upd_other e9 rfl) rfl) rfl) rfl) rfl) ?_)))))
                refine wpc_block ?_
                obtain ⟨I, μ, hI, hr⟩ := h
                refine wpc_loopS (α := Sl × Int) (fun s ρ => ρ 6 = .slice s.1.a s.1.len s.1.cap ∧ ρ 9 = .int .i64 s.2 ∧ ρ 0 = .slice d_0.a d_0.len d_0.cap ∧ ρ 1 = .int .i64 i_1 ∧ ρ 7 = .int .i64 t7 ∧ ρ 8 = .int .i64 t8) (fun s w => I s.1 s.2 w) (fun s w => μ s.1 s.2 w) (t6, t9) ⟨rfl, rfl, rfl, rfl, rfl, rfl⟩ hI ?_
                rintro ⟨t6, t9⟩ ρ w ⟨e6, e9, e0, e1, e7, e8⟩ hI
                have h := hr t6 t9 w hI
                clear hr
                obtain ⟨nx2, hnx⟩ : ∃ nx : Sl → Int → Int → Int → Sl → Int → World → Prop, nx = (fun d_0' i_1' t7' t8' t6' t9' w' => (d_0' = d_0 ∧ i_1' = i_1 ∧ t7' = t7 ∧ t8' = t8) ∧ I t6' t9' w' ∧ μ t6' t9' w' < μ t6 t9 w) := ⟨_, rfl⟩
                rw [← hnx] at h
                refine wpc_norm (M := fun ρ w => asL (ρ 0) fun d_0 => asI .i64 (ρ 1) fun i_1 => asI .i64 (ρ 7) fun t7 => asI .i64 (ρ 8) fun t8 => asL (ρ 6) fun t6 => asI .i64 (ρ 9) fun t9 => nx2 d_0 i_1 t7 t8 t6 t9 w) ?_ (fun ρ w h => ?_)
                · skip
                  refine reroot e0 (reroot (upd_other e1 rfl) (reroot (upd_other (upd_other e6 rfl) rfl) (reroot (upd_other (upd_other (upd_other e7 rfl) rfl) rfl) (reroot (upd_other (upd_other (upd_other (upd_other e8 rfl) rfl) rfl) rfl) (reroot (upd_other (upd_other (upd_other (upd_other (upd_other e9 rfl) rfl) rfl) rfl) rfl) ?_)))))
                  exact pt_sound hmix _ (Eq.mp (by kernel_rfl) h)
                · skip
                  obtain ⟨d_0', e0', h⟩ := asL_el h
                  obtain ⟨i_1', e1', h⟩ := asI_el h
                  obtain ⟨t7', e7', h⟩ := asI_el h
                  obtain ⟨t8', e8', h⟩ := asI_el h
                  obtain ⟨t6', e6', h⟩ := asL_el h
                  obtain ⟨t9', e9', h⟩ := asI_el h
                  rw [hnx] at h
                  obtain ⟨hu, hI2, hμ⟩ := h
                  obtain ⟨rfl, rfl, rfl, rfl⟩ := hu
                  exact ⟨(t6', t9'), ⟨e6', e9', e0', e1', e7', e8'⟩, hI2, hμ⟩
            · intro ρ w h
              obtain ⟨d_0, e0, h⟩ := asL_el h
              obtain ⟨i_1, e1, h⟩ := asI_el h
              obtain ⟨t6, e6, h⟩ := asL_el h
              obtain ⟨t7, e7, h⟩ := asI_el h
              refine reroot e0 (reroot (upd_other e1 rfl) (reroot (upd_other (upd_other e6 rfl) rfl) (reroot (upd_other (upd_other (upd_other e7 rfl) rfl) rfl) ?_)))
              exact pt_sound hmix _ (Eq.mp (by kernel_rfl) h)
        · skip
          obtain ⟨d_0', e0', h⟩ := asL_el h
          obtain ⟨i_1', e1', h⟩ := asI_el h
          obtain ⟨t6', e6', h⟩ := asL_el h
          obtain ⟨t7', e7', h⟩ := asI_el h
          rw [hnx] at h
          obtain ⟨hu, hI2, hμ⟩ := h
          obtain ⟨rfl, rfl⟩ := hu
          exact ⟨(t6', t7'), ⟨e6', e7', e0', e1'⟩, hI2, hμ⟩
    · intro ρ w h
      obtain ⟨i_1, e1, h⟩ := asI_el h
      obtain ⟨t6, e6, h⟩ := asL_el h
      refine reroot e1 (reroot (upd_other e6 rfl) ?_)
      exact pt_sound hmix _ (Eq.mp (by kernel_rfl) h)

end Go.Proofs.Ytkajimndclhgaaa
