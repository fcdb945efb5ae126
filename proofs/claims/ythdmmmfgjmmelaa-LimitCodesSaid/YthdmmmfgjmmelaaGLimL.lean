/- PRINTED BY gen.py (own work): what calls come to, and the proofs of it. -/
import Derived.Test.YthdmmmfgjmmelaaVcJ
import Derived.Test.YthdmmmfgjmmelaaProg
namespace Go.Proofs.Ythdmmmfgjmmelaa
open Go Go.Proofs
set_option linter.unusedVariables false
set_option maxRecDepth 100000

/-! trove/trovelaw6.known -/
def trovelaw6_known  (Q : Value → World → Prop) (w : World) : Prop :=
  lt (⟨World.heapSize w, 0, none⟩ : Addr) fun a1 =>
  lt (World.alloc w (.cells ⟨[.int .i64 1, .int .i64 1, .int .i64 2, .int .i64 4]⟩ 3)) fun w2 =>
  Calls Try.prog 35 ⟨[.slice (some a1) 4 4]⟩ w2 fun e3 w4 =>
  ∃ r5 : Sl, ∃ r6 : Int, e3 = .returned (.tuple ⟨[.slice r5.a r5.len r5.cap, .int .i64 r6]⟩) ∧
  Calls Try.prog 11 ⟨[.slice (some a1) 4 4, .int .i64 2]⟩ w4 fun e7 w8 =>
  ∃ r9 : Sl, ∃ r10 : Int, e7 = .returned (.tuple ⟨[.slice r9.a r9.len r9.cap, .int .i64 r10]⟩) ∧
  Calls Try.prog 10 ⟨[.slice (some a1) 4 4, .int .i64 2]⟩ w8 fun e11 w12 =>
  ∃ r13 : Int, ∃ r14 : Int, e11 = .returned (.tuple ⟨[.int .i64 r13, .int .i64 r14]⟩) ∧
  lt (IntKind.i64.wrap (r6 + r10)) fun x15 =>
  lt (IntKind.i64.wrap (x15 + r14)) fun x16 =>
  br ((x16 : Int) == 0) (
  br ((((r5.len : Nat) : Int) : Int) == 4) (
  ixS r5.a r5.len 3 1 fun a17 =>
  ldI .i64 w12 a17 fun x18 =>
  br ((x18 : Int) == 1) (
  ixS r5.a r5.len 0 1 fun a19 =>
  ldI .i64 w12 a19 fun x20 =>
  br ((x20 : Int) == 3) (
  br ((((r9.len : Nat) : Int) : Int) == 4) (
  ixS r9.a r9.len 0 1 fun a21 =>
  ldI .i64 w12 a21 fun x22 =>
  br ((x22 : Int) == 2) (
  Q (.bool ((r13 : Int) == 16)) w12) (
  Q (.bool false) w12)) (
  Q (.bool false) w12)) (
  Q (.bool false) w12)) (
  Q (.bool false) w12)) (
  Q (.bool false) w12)) (
  Q (.bool false) w12)

theorem trovelaw6_known.ok  (Q : Value → World → Prop) (w : World) (h : trovelaw6_known  Q w) : Calls Try.prog 9 ⟨[]⟩ w (Ret Q) := by
  refine calls_of_wpc [.tmp 0] Try.func9 rfl rfl rfl rfl ?_
  exact pt_sound hmix _ (Eq.mp (by kernel_rfl) h)

/-! trove/trovelaw6.cost -/
def trovelaw6_cost.j2 (n_5 : Int) (Q : Value → World → Prop) (w : World) : Prop :=
  Q (.int .i64 n_5) w

def trovelaw6_cost.b1 (l_0 : Sl) (counts_1 : Sl) (n_5 : Int) (i_6 : Int) (Q : Value → World → Prop) (nx1 : Sl → Sl → Int → Int → World → Prop) (w : World) : Prop :=
  br (decide ((i_6 : Int) < ((l_0.len : Nat) : Int))) (
  br (decide ((i_6 : Int) < ((counts_1.len : Nat) : Int))) (
  lt (World.drew w) fun w1 =>
  ixS l_0.a l_0.len i_6 1 fun a2 =>
  ldI .i64 w1 a2 fun x3 =>
  ixS counts_1.a counts_1.len i_6 1 fun a4 =>
  ldI .i64 w1 a4 fun x5 =>
  lt (IntKind.i64.wrap (x3 * x5)) fun x6 =>
  lt (IntKind.i64.wrap (n_5 + x6)) fun x7 =>
  lt (IntKind.i64.wrap (i_6 + 1)) fun x8 =>
  nx1 l_0 counts_1 x7 x8 w1) (
  trovelaw6_cost.j2 n_5 Q w)) (
  trovelaw6_cost.j2 n_5 Q w)

def trovelaw6_cost.l1 (l_0 : Sl) (counts_1 : Sl) (n_5 : Int) (i_6 : Int) (Q : Value → World → Prop) (w : World) : Prop :=
  ∃ (I : Int → Int → World → Prop) (μ : Int → Int → World → Nat), I n_5 i_6 w ∧ ∀ n_5 : Int, ∀ i_6 : Int, ∀ w : World, I n_5 i_6 w → trovelaw6_cost.b1 l_0 counts_1 n_5 i_6 Q (fun l_0' counts_1' n_5' i_6' w' => (l_0' = l_0 ∧ counts_1' = counts_1) ∧ I n_5' i_6' w' ∧ μ n_5' i_6' w' < μ n_5 i_6 w) w

def trovelaw6_cost.j3 (l_0 : Sl) (counts_1 : Sl) (n_5 : Int) (i_6 : Int) (Q : Value → World → Prop) (w : World) : Prop :=
  trovelaw6_cost.l1 l_0 counts_1 n_5 i_6 Q w

def trovelaw6_cost.j1 (l_0 : Sl) (counts_1 : Sl) (n_5 : Int) (Q : Value → World → Prop) (w : World) : Prop :=
  trovelaw6_cost.j3 l_0 counts_1 n_5 0 Q w

def trovelaw6_cost (l_0 : Sl) (counts_1 : Sl) (Q : Value → World → Prop) (w : World) : Prop :=
  trovelaw6_cost.j1 l_0 counts_1 0 Q w

theorem trovelaw6_cost.ok (l_0 : Sl) (counts_1 : Sl) (Q : Value → World → Prop) (w : World) (h : trovelaw6_cost l_0 counts_1 Q w) : Calls Try.prog 15 ⟨[.slice l_0.a l_0.len l_0.cap, .slice counts_1.a counts_1.len counts_1.cap]⟩ w (Ret Q) := by
  refine calls_of_wpc [.tmp 4] Try.func15 rfl rfl rfl rfl ?_
  refine wpc_pre2 hmix (fun ρ w => asL (ρ 0) fun l_0 => asL (ρ 1) fun counts_1 => asI .i64 (ρ 5) fun n_5 => trovelaw6_cost.j1 l_0 counts_1 n_5 Q w) (Eq.mp (by kernel_rfl) h) ?_
  intro ρ w h
  obtain ⟨l_0, e0, h⟩ := asL_el h
  obtain ⟨counts_1, e1, h⟩ := asL_el h
  obtain ⟨n_5, e5, h⟩ := asI_el h
  refine reroot e0 (reroot (upd_other e1 rfl) (reroot (upd_other (upd_other e5 rfl) rfl) ?_))
  refine wpc_seq (fun ρ w => asI .i64 (ρ 5) fun n_5 => trovelaw6_cost.j2 n_5 Q w) ?_ ?_
  · skip
    refine wpc_seq (fun ρ w => asL (ρ 0) fun l_0 => asL (ρ 1) fun counts_1 => asI .i64 (ρ 5) fun n_5 => asI .i64 (ρ 6) fun i_6 => trovelaw6_cost.j3 l_0 counts_1 n_5 i_6 Q w) ?_ ?_
    · skip
      exact pt_sound hmix _ (Eq.mp (by kernel_rfl) h)
    · intro ρ w h
      obtain ⟨l_0, e0, h⟩ := asL_el h
      obtain ⟨counts_1, e1, h⟩ := asL_el h
      obtain ⟨n_5, e5, h⟩ := asI_el h
      obtain ⟨i_6, e6, h⟩ := asI_el h
      refine reroot e0 (reroot (upd_other e1 rfl) (reroot (upd_other (upd_other e5 rfl) rfl) (reroot (upd_other (upd_other (upd_other e6 rfl) rfl) rfl) ?_)))
      refine wpc_block ?_
      obtain ⟨I, μ, hI, hr⟩ := h
      refine wpc_loopS (α := Int × Int) (fun s ρ => ρ 5 = .int .i64 s.1 ∧ ρ 6 = .int .i64 s.2 ∧ ρ 0 = .slice l_0.a l_0.len l_0.cap ∧ ρ 1 = .slice counts_1.a counts_1.len counts_1.cap) (fun s w => I s.1 s.2 w) (fun s w => μ s.1 s.2 w) (n_5, i_6) ⟨rfl, rfl, rfl, rfl⟩ hI ?_
      rintro ⟨n_5, i_6⟩ ρ w ⟨e5, e6, e0, e1⟩ hI
      have h := hr n_5 i_6 w hI
      clear hr
      obtain ⟨nx1, hnx⟩ : ∃ nx : Sl → Sl → Int → Int → World → Prop, nx = (fun l_0' counts_1' n_5' i_6' w' => (l_0' = l_0 ∧ counts_1' = counts_1) ∧ I n_5' i_6' w' ∧ μ n_5' i_6' w' < μ n_5 i_6 w) := ⟨_, rfl⟩
      rw [← hnx] at h
      refine wpc_norm (M := fun ρ w => asL (ρ 0) fun l_0 => asL (ρ 1) fun counts_1 => asI .i64 (ρ 5) fun n_5 => asI .i64 (ρ 6) fun i_6 => nx1 l_0 counts_1 n_5 i_6 w) ?_ (fun ρ w h => ?_)
      · skip
        refine reroot e0 (reroot (upd_other e1 rfl) (reroot (upd_other (upd_other e5 rfl) rfl) (reroot (upd_other (upd_other (upd_other e6 rfl) rfl) rfl) ?_)))
        exact pt_sound hmix _ (Eq.mp (by kernel_rfl) h)
      · skip
        obtain ⟨l_0', e0', h⟩ := asL_el h
        obtain ⟨counts_1', e1', h⟩ := asL_el h
        obtain ⟨n_5', e5', h⟩ := asI_el h
        obtain ⟨i_6', e6', h⟩ := asI_el h
        rw [hnx] at h
        obtain ⟨hu, hI2, hμ⟩ := h
        obtain ⟨rfl, rfl⟩ := hu
        exact ⟨(n_5', i_6'), ⟨e5', e6', e0', e1'⟩, hI2, hμ⟩
  · intro ρ w h
    obtain ⟨n_5, e5, h⟩ := asI_el h
    refine reroot e5 ?_
    exact pt_sound hmix _ (Eq.mp (by kernel_rfl) h)

/-! trove/trovelaw6.whole -/
def trovelaw6_whole.j3 (t7 : Int) (t8 : Int) (Q : Value → World → Prop) (w : World) : Prop :=
  br ((t7 : Int) == 0) (
  Q (.bool true) w) (
  br ((t7 : Int) == 1) (
  Q (.bool ((t8 : Int) == 576460752303423488)) w) (
  Q (.bool ((t8 : Int) == 1152921504606846976)) w))

def trovelaw6_whole.b1 (d_0 : Sl) (i_1 : Sl) (t2 : Int) (t7 : Int) (t8 : Int) (t9 : Int) (Q : Value → World → Prop) (nx1 : Sl → Sl → Int → Int → Int → Int → World → Prop) (w : World) : Prop :=
  br (decide ((t9 : Int) < ((d_0.len : Nat) : Int))) (
  lt (World.drew w) fun w1 =>
  ixS d_0.a d_0.len t9 1 fun a2 =>
  ldI .i64 w1 a2 fun x3 =>
  ixS i_1.a i_1.len t9 1 fun a4 =>
  ldI .i64 w1 a4 fun x5 =>
  br (!((decide ((x3 : Int) > 0)) == (decide ((x5 : Int) > 0)))) (
  Q (.bool false) w1) (
  ixS d_0.a d_0.len t9 1 fun a6 =>
  ldI .i64 w1 a6 fun x7 =>
  br (decide ((x7 : Int) < 0)) (
  Q (.bool false) w1) (
  ixS d_0.a d_0.len t9 1 fun a8 =>
  ldI .i64 w1 a8 fun x9 =>
  br (decide ((x9 : Int) > t2)) (
  Q (.bool false) w1) (
  ixS d_0.a d_0.len t9 1 fun a10 =>
  ldI .i64 w1 a10 fun x11 =>
  br (decide ((x11 : Int) > 60)) (
  Q (.bool false) w1) (
  ixS d_0.a d_0.len t9 1 fun a12 =>
  ldI .i64 w1 a12 fun x13 =>
  br (decide ((x13 : Int) > 0)) (
  lt (IntKind.i64.wrap (t7 + 1)) fun x14 =>
  ixS d_0.a d_0.len t9 1 fun a15 =>
  ldI .i64 w1 a15 fun x16 =>
  lt (IntKind.i64.wrap (60 - x16)) fun x17 =>
  lt (IntKind.u64.wrap x17) fun x18 =>
  (0 : Int) ≤ x18 ∧
  lt (shlV .i64 1 x18) fun x19 =>
  lt (IntKind.i64.wrap (t8 + x19)) fun x20 =>
  lt (IntKind.i64.wrap (t9 + 1)) fun x21 =>
  nx1 d_0 i_1 t2 x14 x20 x21 w1) (
  lt (IntKind.i64.wrap (t9 + 1)) fun x22 =>
  nx1 d_0 i_1 t2 t7 t8 x22 w1)))))) (
  trovelaw6_whole.j3 t7 t8 Q w)

def trovelaw6_whole.l1 (d_0 : Sl) (i_1 : Sl) (t2 : Int) (t7 : Int) (t8 : Int) (t9 : Int) (Q : Value → World → Prop) (w : World) : Prop :=
  ∃ (I : Int → Int → Int → World → Prop) (μ : Int → Int → Int → World → Nat), I t7 t8 t9 w ∧ ∀ t7 : Int, ∀ t8 : Int, ∀ t9 : Int, ∀ w : World, I t7 t8 t9 w → trovelaw6_whole.b1 d_0 i_1 t2 t7 t8 t9 Q (fun d_0' i_1' t2' t7' t8' t9' w' => (d_0' = d_0 ∧ i_1' = i_1 ∧ t2' = t2) ∧ I t7' t8' t9' w' ∧ μ t7' t8' t9' w' < μ t7 t8 t9 w) w

def trovelaw6_whole.j4 (d_0 : Sl) (i_1 : Sl) (t2 : Int) (t7 : Int) (t8 : Int) (t9 : Int) (Q : Value → World → Prop) (w : World) : Prop :=
  trovelaw6_whole.l1 d_0 i_1 t2 t7 t8 t9 Q w

def trovelaw6_whole.j2 (d_0 : Sl) (i_1 : Sl) (t2 : Int) (t7 : Int) (t8 : Int) (Q : Value → World → Prop) (w : World) : Prop :=
  trovelaw6_whole.j4 d_0 i_1 t2 t7 t8 0 Q w

def trovelaw6_whole.j1 (d_0 : Sl) (i_1 : Sl) (t2 : Int) (Q : Value → World → Prop) (w : World) : Prop :=
  trovelaw6_whole.j2 d_0 i_1 t2 0 0 Q w

def trovelaw6_whole (d_0 : Sl) (i_1 : Sl) (t2 : Int) (Q : Value → World → Prop) (w : World) : Prop :=
  br ((((d_0.len : Nat) : Int) : Int) != ((i_1.len : Nat) : Int)) (
  Q (.bool false) w) (
  trovelaw6_whole.j1 d_0 i_1 t2 Q w)

theorem trovelaw6_whole.ok (d_0 : Sl) (i_1 : Sl) (t2 : Int) (Q : Value → World → Prop) (w : World) (h : trovelaw6_whole d_0 i_1 t2 Q w) : Calls Try.prog 14 ⟨[.slice d_0.a d_0.len d_0.cap, .slice i_1.a i_1.len i_1.cap, .int .i64 t2]⟩ w (Ret Q) := by
  refine calls_of_wpc [.tmp 6] Try.func14 rfl rfl rfl rfl ?_
  refine wpc_pre2 hmix (fun ρ w => asL (ρ 0) fun d_0 => asL (ρ 1) fun i_1 => asI .i64 (ρ 2) fun t2 => trovelaw6_whole.j1 d_0 i_1 t2 Q w) (Eq.mp (by kernel_rfl) h) ?_
  intro ρ w h
  obtain ⟨d_0, e0, h⟩ := asL_el h
  obtain ⟨i_1, e1, h⟩ := asL_el h
  obtain ⟨t2, e2, h⟩ := asI_el h
  refine reroot e0 (reroot (upd_other e1 rfl) (reroot (upd_other (upd_other e2 rfl) rfl) ?_))
  refine wpc_pre2 hmix (fun ρ w => asL (ρ 0) fun d_0 => asL (ρ 1) fun i_1 => asI .i64 (ρ 2) fun t2 => asI .i64 (ρ 7) fun t7 => asI .i64 (ρ 8) fun t8 => trovelaw6_whole.j2 d_0 i_1 t2 t7 t8 Q w) (Eq.mp (by kernel_rfl) h) ?_
  intro ρ w h
  obtain ⟨d_0, e0, h⟩ := asL_el h
  obtain ⟨i_1, e1, h⟩ := asL_el h
  obtain ⟨t2, e2, h⟩ := asI_el h
  obtain ⟨t7, e7, h⟩ := asI_el h
  obtain ⟨t8, e8, h⟩ := asI_el h
  refine reroot e0 (reroot (upd_other e1 rfl) (reroot (upd_other (upd_other e2 rfl) rfl) (reroot (upd_other (upd_other (upd_other e7 rfl) rfl) rfl) (reroot (upd_other (upd_other (upd_other (upd_other e8 rfl) rfl) rfl) rfl) ?_))))
  refine wpc_seq (fun ρ w => asI .i64 (ρ 7) fun t7 => asI .i64 (ρ 8) fun t8 => trovelaw6_whole.j3 t7 t8 Q w) ?_ ?_
  · skip
    refine wpc_seq (fun ρ w => asL (ρ 0) fun d_0 => asL (ρ 1) fun i_1 => asI .i64 (ρ 2) fun t2 => asI .i64 (ρ 7) fun t7 => asI .i64 (ρ 8) fun t8 => asI .i64 (ρ 9) fun t9 => trovelaw6_whole.j4 d_0 i_1 t2 t7 t8 t9 Q w) ?_ ?_
    · skip
      exact pt_sound hmix _ (Eq.mp (by kernel_rfl) h)
    · intro ρ w h
      obtain ⟨d_0, e0, h⟩ := asL_el h
      obtain ⟨i_1, e1, h⟩ := asL_el h
      obtain ⟨t2, e2, h⟩ := asI_el h
      obtain ⟨t7, e7, h⟩ := asI_el h
      obtain ⟨t8, e8, h⟩ := asI_el h
      obtain ⟨t9, e9, h⟩ := asI_el h
      refine reroot e0 (reroot (upd_other e1 rfl) (reroot (upd_other (upd_other e2 rfl) rfl) (reroot (upd_other (upd_other (upd_other e7 rfl) rfl) rfl) (reroot (upd_other (upd_other (upd_other (upd_other e8 rfl) rfl) rfl) rfl) (reroot (upd_other (upd_other (upd_other (upd_other (upd_other e9 rfl) rfl) rfl) rfl) rfl) ?_)))))
      refine wpc_block ?_
      obtain ⟨I, μ, hI, hr⟩ := h
      refine wpc_loopS (α := Int × Int × Int) (fun s ρ => ρ 7 = .int .i64 s.1 ∧ ρ 8 = .int .i64 s.2.1 ∧ ρ 9 = .int .i64 s.2.2 ∧ ρ 0 = .slice d_0.a d_0.len d_0.cap ∧ ρ 1 = .slice i_1.a i_1.len i_1.cap ∧ ρ 2 = .int .i64 t2) (fun s w => I s.1 s.2.1 s.2.2 w) (fun s w => μ s.1 s.2.1 s.2.2 w) (t7, t8, t9) ⟨rfl, rfl, rfl, rfl, rfl, rfl⟩ hI ?_
      rintro ⟨t7, t8, t9⟩ ρ w ⟨e7, e8, e9, e0, e1, e2⟩ hI
      have h := hr t7 t8 t9 w hI
      clear hr
      obtain ⟨nx1, hnx⟩ : ∃ nx : Sl → Sl → Int → Int → Int → Int → World → Prop, nx = (fun d_0' i_1' t2' t7' t8' t9' w' => (d_0' = d_0 ∧ i_1' = i_1 ∧ t2' = t2) ∧ I t7' t8' t9' w' ∧ μ t7' t8' t9' w' < μ t7 t8 t9 w) := ⟨_, rfl⟩
      rw [← hnx] at h
      refine wpc_norm (M := fun ρ w => asL (ρ 0) fun d_0 => asL (ρ 1) fun i_1 => asI .i64 (ρ 2) fun t2 => asI .i64 (ρ 7) fun t7 => asI .i64 (ρ 8) fun t8 => asI .i64 (ρ 9) fun t9 => nx1 d_0 i_1 t2 t7 t8 t9 w) ?_ (fun ρ w h => ?_)
      · skip
        refine reroot e0 (reroot (upd_other e1 rfl) (reroot (upd_other (upd_other e2 rfl) rfl) (reroot (upd_other (upd_other (upd_other e7 rfl) rfl) rfl) (reroot (upd_other (upd_other (upd_other (upd_other e8 rfl) rfl) rfl) rfl) (reroot (upd_other (upd_other (upd_other (upd_other (upd_other e9 rfl) rfl) rfl) rfl) rfl) ?_)))))
        exact pt_sound hmix _ (Eq.mp (by kernel_rfl) h)
      · skip
        obtain ⟨d_0', e0', h⟩ := asL_el h
        obtain ⟨i_1', e1', h⟩ := asL_el h
        obtain ⟨t2', e2', h⟩ := asI_el h
        obtain ⟨t7', e7', h⟩ := asI_el h
        obtain ⟨t8', e8', h⟩ := asI_el h
        obtain ⟨t9', e9', h⟩ := asI_el h
        rw [hnx] at h
        obtain ⟨hu, hI2, hμ⟩ := h
        obtain ⟨rfl, rfl, rfl⟩ := hu
        exact ⟨(t7', t8', t9'), ⟨e7', e8', e9', e0', e1', e2'⟩, hI2, hμ⟩
  · intro ρ w h
    obtain ⟨t7, e7, h⟩ := asI_el h
    obtain ⟨t8, e8, h⟩ := asI_el h
    refine reroot e7 (reroot (upd_other e8 rfl) ?_)
    exact pt_sound hmix _ (Eq.mp (by kernel_rfl) h)

/-! trove/trovelaw6.LimitBest -/
def trovelaw6_LimitBest (d_0 : Sl) (i_1 : Int) (Q : Value → World → Prop) (w : World) : Prop :=
  Calls Try.prog 9 ⟨[]⟩ w fun e1 w2 =>
  ∃ r3 : Bool, e1 = .returned (.bool r3) ∧
  br (!r3) (
  Q (.bool false) w2) (
  br (decide ((((d_0.len : Nat) : Int) : Int) > 300)) (
  Q (.bool true) w2) (
  Calls Try.prog 11 ⟨[.slice d_0.a d_0.len d_0.cap, .int .i64 i_1]⟩ w2 fun e4 w5 =>
  ∃ r6 : Sl, ∃ r7 : Int, e4 = .returned (.tuple ⟨[.slice r6.a r6.len r6.cap, .int .i64 r7]⟩) ∧
  Calls Try.prog 10 ⟨[.slice d_0.a d_0.len d_0.cap, .int .i64 i_1]⟩ w5 fun e8 w9 =>
  ∃ r10 : Int, ∃ r11 : Int, e8 = .returned (.tuple ⟨[.int .i64 r10, .int .i64 r11]⟩) ∧
  Calls Try.prog 12 ⟨[.slice d_0.a d_0.len d_0.cap, .int .i64 i_1]⟩ w9 fun e12 w13 =>
  ∃ r14 : Int, ∃ r15 : Int, e12 = .returned (.tuple ⟨[.int .i64 r14, .int .i64 r15]⟩) ∧
  br ((r7 : Int) != r15) (
  Q (.bool false) w13) (
  br ((r11 : Int) != r15) (
  Q (.bool false) w13) (
  br ((r10 : Int) != r14) (
  Q (.bool false) w13) (
  br ((r15 : Int) != 0) (
  Q (.bool ((((r6.len : Nat) : Int) : Int) == 0)) w13) (
  Calls Try.prog 13 ⟨[.slice r6.a r6.len r6.cap]⟩ w13 fun e16 w17 =>
  ∃ r18 : Bool, ∃ r19 : Int, e16 = .returned (.tuple ⟨[.bool r18, .int .i64 r19]⟩) ∧
  br ((r19 : Int) == 0) (
  Calls Try.prog 14 ⟨[.slice r6.a r6.len r6.cap, .slice d_0.a d_0.len d_0.cap, .int .i64 i_1]⟩ w17 fun e20 w21 =>
  ∃ r22 : Bool, e20 = .returned (.bool r22) ∧
  br r22 (
  Calls Try.prog 15 ⟨[.slice r6.a r6.len r6.cap, .slice d_0.a d_0.len d_0.cap]⟩ w21 fun e23 w24 =>
  ∃ r25 : Int, e23 = .returned (.int .i64 r25) ∧
  Q (.bool ((r25 : Int) == r14)) w24) (
  Q (.bool false) w21)) (
  Q (.bool false) w17)))))))

theorem trovelaw6_LimitBest.ok (d_0 : Sl) (i_1 : Int) (Q : Value → World → Prop) (w : World) (h : trovelaw6_LimitBest d_0 i_1 Q w) : Calls Try.prog 4 ⟨[.slice d_0.a d_0.len d_0.cap, .int .i64 i_1]⟩ w (Ret Q) := by
  refine calls_of_wpc [.tmp 4] Try.func4 rfl rfl rfl rfl ?_
  exact pt_sound hmix _ (Eq.mp (by kernel_rfl) h)

/-! trove/trovelaw6.LimitWider -/
def trovelaw6_LimitWider.j5 (t2 : Int) (t11 : Sl) (Q : Value → World → Prop) (w : World) : Prop :=
  Calls Try.prog 10 ⟨[.slice t11.a t11.len t11.cap, .int .i64 t2]⟩ w fun e1 w2 =>
  ∃ r3 : Int, ∃ r4 : Int, e1 = .returned (.tuple ⟨[.int .i64 r3, .int .i64 r4]⟩) ∧
  lt (⟨World.heapSize w2, 0, none⟩ : Addr) fun a5 =>
  lt (World.alloc w2 (.cells ⟨[.int .i64 3]⟩ 3)) fun w6 =>
  rdO w6 (some a5) (1 * 1) fun c7 =>
  apK Try.prog 3 w6 t11.a t11.len t11.cap 1 c7 fun s8 w9 =>
  Calls Try.prog 10 ⟨[.slice s8.a s8.len s8.cap, .int .i64 t2]⟩ w9 fun e10 w11 =>
  ∃ r12 : Int, ∃ r13 : Int, e10 = .returned (.tuple ⟨[.int .i64 r12, .int .i64 r13]⟩) ∧
  br ((r4 : Int) == 0) (
  lt (IntKind.i64.wrap (3 * t2)) fun x14 =>
  lt (IntKind.i64.wrap (x14 * ((t11.len : Nat) : Int))) fun x15 =>
  br ((r3 : Int) == x15) (
  Q (.bool ((r13 : Int) == 7)) w11) (
  Q (.bool false) w11)) (
  Q (.bool false) w11)

def trovelaw6_LimitWider.b1 (t2 : Int) (t11 : Sl) (t12 : Int) (Q : Value → World → Prop) (nx1 : Int → Sl → Int → World → Prop) (w : World) : Prop :=
  br (decide ((t12 : Int) < ((t11.len : Nat) : Int))) (
  ixS t11.a t11.len t12 1 fun a16 =>
  st w a16 (.int .i64 3) fun w17 =>
  lt (IntKind.i64.wrap (t12 + 1)) fun x18 =>
  nx1 t2 t11 x18 w17) (
  trovelaw6_LimitWider.j5 t2 t11 Q w)

def trovelaw6_LimitWider.l1 (t2 : Int) (t11 : Sl) (t12 : Int) (Q : Value → World → Prop) (w : World) : Prop :=
  ∃ (I : Int → World → Prop) (μ : Int → World → Nat), I t12 w ∧ ∀ t12 : Int, ∀ w : World, I t12 w → trovelaw6_LimitWider.b1 t2 t11 t12 Q (fun t2' t11' t12' w' => (t2' = t2 ∧ t11' = t11) ∧ I t12' w' ∧ μ t12' w' < μ t12 w) w

def trovelaw6_LimitWider.j6 (t2 : Int) (t11 : Sl) (t12 : Int) (Q : Value → World → Prop) (w : World) : Prop :=
  trovelaw6_LimitWider.l1 t2 t11 t12 Q w

def trovelaw6_LimitWider.j4 (t2 : Int) (t11 : Sl) (Q : Value → World → Prop) (w : World) : Prop :=
  trovelaw6_LimitWider.j6 t2 t11 0 Q w

def trovelaw6_LimitWider.j3 (t2 : Int) (Q : Value → World → Prop) (w : World) : Prop :=
  lt (IntKind.u64.wrap t2) fun x19 =>
  (0 : Int) ≤ x19 ∧
  lt (shlV .i64 1 x19) fun x20 =>
  mkK Try.prog 3 w x20 x20 fun s21 w22 =>
  trovelaw6_LimitWider.j4 t2 s21 Q w22

def trovelaw6_LimitWider.j2 (d_0 : Sl) (i_1 : Int) (t2 : Int) (t7 : Int) (t8 : Int) (Q : Value → World → Prop) (w : World) : Prop :=
  lt (IntKind.i64.wrap (i_1 + 1)) fun x23 =>
  Calls Try.prog 10 ⟨[.slice d_0.a d_0.len d_0.cap, .int .i64 x23]⟩ w fun e24 w25 =>
  ∃ r26 : Int, ∃ r27 : Int, e24 = .returned (.tuple ⟨[.int .i64 r26, .int .i64 r27]⟩) ∧
  br ((t8 : Int) == 0) (
  br ((r27 : Int) != 0) (
  Q (.bool false) w25) (
  br (decide ((r26 : Int) > t7)) (
  Q (.bool false) w25) (
  trovelaw6_LimitWider.j3 t2 Q w25))) (
  trovelaw6_LimitWider.j3 t2 Q w25)

def trovelaw6_LimitWider.j1 (d_0 : Sl) (i_1 : Int) (t2 : Int) (Q : Value → World → Prop) (w : World) : Prop :=
  br (decide ((((d_0.len : Nat) : Int) : Int) > 300)) (
  Q (.bool true) w) (
  br (decide ((i_1 : Int) < 1)) (
  Q (.bool true) w) (
  br (decide ((i_1 : Int) > 14)) (
  Q (.bool true) w) (
  br (decide ((t2 : Int) < 1)) (
  Q (.bool true) w) (
  br (decide ((t2 : Int) > 8)) (
  Q (.bool true) w) (
  Calls Try.prog 10 ⟨[.slice d_0.a d_0.len d_0.cap, .int .i64 i_1]⟩ w fun e28 w29 =>
  ∃ r30 : Int, ∃ r31 : Int, e28 = .returned (.tuple ⟨[.int .i64 r30, .int .i64 r31]⟩) ∧
  trovelaw6_LimitWider.j2 d_0 i_1 t2 r30 r31 Q w29)))))

def trovelaw6_LimitWider (d_0 : Sl) (i_1 : Int) (t2 : Int) (Q : Value → World → Prop) (w : World) : Prop :=
  Calls Try.prog 9 ⟨[]⟩ w fun e32 w33 =>
  ∃ r34 : Bool, e32 = .returned (.bool r34) ∧
  br (!r34) (
  Q (.bool false) w33) (
  trovelaw6_LimitWider.j1 d_0 i_1 t2 Q w33)

theorem trovelaw6_LimitWider.ok (d_0 : Sl) (i_1 : Int) (t2 : Int) (Q : Value → World → Prop) (w : World) (h : trovelaw6_LimitWider d_0 i_1 t2 Q w) : Calls Try.prog 3 ⟨[.slice d_0.a d_0.len d_0.cap, .int .i64 i_1, .int .i64 t2]⟩ w (Ret Q) := by
  refine calls_of_wpc [.tmp 6] Try.func3 rfl rfl rfl rfl ?_
  refine wpc_pre2 hmix (fun ρ w => asL (ρ 0) fun d_0 => asI .i64 (ρ 1) fun i_1 => asI .i64 (ρ 2) fun t2 => trovelaw6_LimitWider.j1 d_0 i_1 t2 Q w) (Eq.mp (by kernel_rfl) h) ?_
  intro ρ w h
  obtain ⟨d_0, e0, h⟩ := asL_el h
  obtain ⟨i_1, e1, h⟩ := asI_el h
  obtain ⟨t2, e2, h⟩ := asI_el h
  refine reroot e0 (reroot (upd_other e1 rfl) (reroot (upd_other (upd_other e2 rfl) rfl) ?_))
  refine wpc_pre2 hmix (fun ρ w => asL (ρ 0) fun d_0 => asI .i64 (ρ 1) fun i_1 => asI .i64 (ρ 2) fun t2 => asI .i64 (ρ 7) fun t7 => asI .i64 (ρ 8) fun t8 => trovelaw6_LimitWider.j2 d_0 i_1 t2 t7 t8 Q w) (Eq.mp (by kernel_rfl) h) ?_
  intro ρ w h
  obtain ⟨d_0, e0, h⟩ := asL_el h
  obtain ⟨i_1, e1, h⟩ := asI_el h
  obtain ⟨t2, e2, h⟩ := asI_el h
  obtain ⟨t7, e7, h⟩ := asI_el h
  obtain ⟨t8, e8, h⟩ := asI_el h
  refine reroot e0 (reroot (upd_other e1 rfl) (reroot (upd_other (upd_other e2 rfl) rfl) (reroot (upd_other (upd_other (upd_other e7 rfl) rfl) rfl) (reroot (upd_other (upd_other (upd_other (upd_other e8 rfl) rfl) rfl) rfl) ?_))))
  refine wpc_pre2 hmix (fun ρ w => asI .i64 (ρ 2) fun t2 => trovelaw6_LimitWider.j3 t2 Q w) (Eq.mp (by kernel_rfl) h) ?_
  intro ρ w h
  obtain ⟨t2, e2, h⟩ := asI_el h
  refine reroot e2 ?_
  refine wpc_seq (fun ρ w => asI .i64 (ρ 2) fun t2 => asL (ρ 11) fun t11 => trovelaw6_LimitWider.j4 t2 t11 Q w) ?_ ?_
  · skip
    exact pt_sound hmix _ (Eq.mp (by kernel_rfl) h)
  · intro ρ w h
    obtain ⟨t2, e2, h⟩ := asI_el h
    obtain ⟨t11, e11, h⟩ := asL_el h
    refine reroot e2 (reroot (upd_other e11 rfl) ?_)
    refine wpc_seq (fun ρ w => asI .i64 (ρ 2) fun t2 => asL (ρ 11) fun t11 => trovelaw6_LimitWider.j5 t2 t11 Q w) ?_ ?_
    · skip
      refine wpc_seq (fun ρ w => asI .i64 (ρ 2) fun t2 => asL (ρ 11) fun t11 => asI .i64 (ρ 12) fun t12 => trovelaw6_LimitWider.j6 t2 t11 t12 Q w) ?_ ?_
      · skip
        exact pt_sound hmix _ (Eq.mp (by kernel_rfl) h)
      · intro ρ w h
        obtain ⟨t2, e2, h⟩ := asI_el h
        obtain ⟨t11, e11, h⟩ := asL_el h
        obtain ⟨t12, e12, h⟩ := asI_el h
        refine reroot e2 (reroot (upd_other e11 rfl) (reroot (upd_other (upd_other e12 rfl) rfl) ?_))
        refine wpc_block ?_
        obtain ⟨I, μ, hI, hr⟩ := h
        refine wpc_loopS (α := Int) (fun s ρ => ρ 12 = .int .i64 s ∧ ρ 2 = .int .i64 t2 ∧ ρ 11 = .slice t11.a t11.len t11.cap) (fun s w => I s w) (fun s w => μ s w) t12 ⟨rfl, rfl, rfl⟩ hI ?_
        rintro t12 ρ w ⟨e12, e2, e11⟩ hI
        have h := hr t12 w hI
        clear hr
        obtain ⟨nx1, hnx⟩ : ∃ nx : Int → Sl → Int → World → Prop, nx = (fun t2' t11' t12' w' => (t2' = t2 ∧ t11' = t11) ∧ I t12' w' ∧ μ t12' w' < μ t12 w) := ⟨_, rfl⟩
        rw [← hnx] at h
        refine wpc_norm (M := fun ρ w => asI .i64 (ρ 2) fun t2 => asL (ρ 11) fun t11 => asI .i64 (ρ 12) fun t12 => nx1 t2 t11 t12 w) ?_ (fun ρ w h => ?_)
        · skip
          refine reroot e2 (reroot (upd_other e11 rfl) (reroot (upd_other (upd_other e12 rfl) rfl) ?_))
          exact pt_sound hmix _ (Eq.mp (by kernel_rfl) h)
        · skip
          obtain ⟨t2', e2', h⟩ := asI_el h
          obtain ⟨t11', e11', h⟩ := asL_el h
          obtain ⟨t12', e12', h⟩ := asI_el h
          rw [hnx] at h
          obtain ⟨hu, hI2, hμ⟩ := h
          obtain ⟨rfl, rfl⟩ := hu
          exact ⟨t12', ⟨e12', e2', e11'⟩, hI2, hμ⟩
    · intro ρ w h
      obtain ⟨t2, e2, h⟩ := asI_el h
      obtain ⟨t11, e11, h⟩ := asL_el h
      refine reroot e2 (reroot (upd_other e11 rfl) ?_)
      exact pt_sound hmix _ (Eq.mp (by kernel_rfl) h)

/-! trove/trovelaw6.LimitCodes -/
def trovelaw6_LimitCodes.j9  (Q : Value → World → Prop) (w : World) : Prop :=
  Q (.bool true) w

def trovelaw6_LimitCodes.b1 (d_0 : Sl) (t11 : (Option Addr)) (t15 : (Option Addr)) (t16 : Int) (Q : Value → World → Prop) (nx1 : Sl → (Option Addr) → (Option Addr) → Int → World → Prop) (w : World) : Prop :=
  br (decide ((t16 : Int) < ((d_0.len : Nat) : Int))) (
  Calls Try.prog 23 ⟨[.pointer t11, .pointer t15]⟩ w fun e1 w2 =>
  ∃ r3 : Int, ∃ r4 : Int, e1 = .returned (.tuple ⟨[.int .i64 r3, .int .i64 r4]⟩) ∧
  ixS d_0.a d_0.len t16 1 fun a5 =>
  ldI .u8 w2 a5 fun x6 =>
  lt (IntKind.i64.wrap x6) fun x7 =>
  br ((r3 : Int) != x7) (
  Q (.bool false) w2) (
  br ((r4 : Int) != 0) (
  Q (.bool false) w2) (
  lt (IntKind.i64.wrap (t16 + 1)) fun x8 =>
  nx1 d_0 t11 t15 x8 w2))) (
  trovelaw6_LimitCodes.j9 Q w)

def trovelaw6_LimitCodes.l1 (d_0 : Sl) (t11 : (Option Addr)) (t15 : (Option Addr)) (t16 : Int) (Q : Value → World → Prop) (w : World) : Prop :=
  ∃ (I : Int → World → Prop) (μ : Int → World → Nat), I t16 w ∧ ∀ t16 : Int, ∀ w : World, I t16 w → trovelaw6_LimitCodes.b1 d_0 t11 t15 t16 Q (fun d_0' t11' t15' t16' w' => (d_0' = d_0 ∧ t11' = t11 ∧ t15' = t15) ∧ I t16' w' ∧ μ t16' w' < μ t16 w) w

def trovelaw6_LimitCodes.j10 (d_0 : Sl) (t11 : (Option Addr)) (t15 : (Option Addr)) (t16 : Int) (Q : Value → World → Prop) (w : World) : Prop :=
  trovelaw6_LimitCodes.l1 d_0 t11 t15 t16 Q w

def trovelaw6_LimitCodes.j8 (d_0 : Sl) (t11 : (Option Addr)) (t15 : (Option Addr)) (Q : Value → World → Prop) (w : World) : Prop :=
  trovelaw6_LimitCodes.j10 d_0 t11 t15 0 Q w

def trovelaw6_LimitCodes.j7 (d_0 : Sl) (t9 : Int) (t11 : (Option Addr)) (t13 : (Option Addr)) (Q : Value → World → Prop) (w : World) : Prop :=
  Calls Try.prog 20 ⟨[.pointer t13]⟩ w fun e9 w10 =>
  ∃ r11 : Int, e9 = .returned (.int .i64 r11) ∧
  br ((r11 : Int) != t9) (
  Q (.bool false) w10) (
  Calls Try.prog 22 ⟨[.pointer t13]⟩ w10 fun e12 w13 =>
  ∃ r14 : Sl, e12 = .returned (.slice r14.a r14.len r14.cap) ∧
  Calls Try.prog 21 ⟨[.slice r14.a r14.len r14.cap]⟩ w13 fun e15 w16 =>
  ∃ r17 : (Option Addr), e15 = .returned (.pointer r17) ∧
  trovelaw6_LimitCodes.j8 d_0 t11 r17 Q w16)

def trovelaw6_LimitCodes.b2 (d_0 : Sl) (t9 : Int) (t11 : (Option Addr)) (t13 : (Option Addr)) (t14 : Int) (Q : Value → World → Prop) (nx2 : Sl → Int → (Option Addr) → (Option Addr) → Int → World → Prop) (w : World) : Prop :=
  br (decide ((t14 : Int) < ((d_0.len : Nat) : Int))) (
  ixS d_0.a d_0.len t14 1 fun a18 =>
  ldI .u8 w a18 fun x19 =>
  lt (IntKind.i64.wrap x19) fun x20 =>
  Calls Try.prog 19 ⟨[.pointer t11, .pointer t13, .int .i64 x20]⟩ w fun e21 w22 =>
  ∃ r23 : Bool, e21 = .returned (.bool r23) ∧
  br (!r23) (
  Q (.bool false) w22) (
  lt (IntKind.i64.wrap (t14 + 1)) fun x24 =>
  nx2 d_0 t9 t11 t13 x24 w22)) (
  trovelaw6_LimitCodes.j7 d_0 t9 t11 t13 Q w)

def trovelaw6_LimitCodes.l2 (d_0 : Sl) (t9 : Int) (t11 : (Option Addr)) (t13 : (Option Addr)) (t14 : Int) (Q : Value → World → Prop) (w : World) : Prop :=
  ∃ (I : Int → World → Prop) (μ : Int → World → Nat), I t14 w ∧ ∀ t14 : Int, ∀ w : World, I t14 w → trovelaw6_LimitCodes.b2 d_0 t9 t11 t13 t14 Q (fun d_0' t9' t11' t13' t14' w' => (d_0' = d_0 ∧ t9' = t9 ∧ t11' = t11 ∧ t13' = t13) ∧ I t14' w' ∧ μ t14' w' < μ t14 w) w

def trovelaw6_LimitCodes.j11 (d_0 : Sl) (t9 : Int) (t11 : (Option Addr)) (t13 : (Option Addr)) (t14 : Int) (Q : Value → World → Prop) (w : World) : Prop :=
  trovelaw6_LimitCodes.l2 d_0 t9 t11 t13 t14 Q w

def trovelaw6_LimitCodes.j6 (d_0 : Sl) (t9 : Int) (t11 : (Option Addr)) (t13 : (Option Addr)) (Q : Value → World → Prop) (w : World) : Prop :=
  trovelaw6_LimitCodes.j11 d_0 t9 t11 t13 0 Q w

def trovelaw6_LimitCodes.j5 (d_0 : Sl) (t5 : Sl) (t8 : Int) (t9 : Int) (t10 : Int) (t11 : (Option Addr)) (t12 : Int) (Q : Value → World → Prop) (w : World) : Prop :=
  lt (IntKind.i64.wrap (t8 + t10)) fun x25 =>
  lt (IntKind.i64.wrap (x25 + t12)) fun x26 =>
  br ((x26 : Int) != 0) (
  Q (.bool false) w) (
  br (Option.isNone t11) (
  Q (.bool false) w) (
  Calls Try.prog 17 ⟨[.pointer t11, .slice t5.a t5.len t5.cap]⟩ w fun e27 w28 =>
  ∃ r29 : Int, e27 = .returned (.int .i64 r29) ∧
  br ((r29 : Int) != t9) (
  Q (.bool false) w28) (
  Calls Try.prog 18 ⟨[]⟩ w28 fun e30 w31 =>
  ∃ r32 : (Option Addr), e30 = .returned (.pointer r32) ∧
  trovelaw6_LimitCodes.j6 d_0 t9 t11 r32 Q w31)))

def trovelaw6_LimitCodes.j4 (d_0 : Sl) (i_1 : Int) (t5 : Sl) (t7 : Sl) (t8 : Int) (Q : Value → World → Prop) (w : World) : Prop :=
  Calls Try.prog 10 ⟨[.slice t5.a t5.len t5.cap, .int .i64 i_1]⟩ w fun e33 w34 =>
  ∃ r35 : Int, ∃ r36 : Int, e33 = .returned (.tuple ⟨[.int .i64 r35, .int .i64 r36]⟩) ∧
  Calls Try.prog 16 ⟨[.slice t7.a t7.len t7.cap, .bool true]⟩ w34 fun e37 w38 =>
  ∃ r39 : (Option Addr), ∃ r40 : Int, e37 = .returned (.tuple ⟨[.pointer r39, .int .i64 r40]⟩) ∧
  trovelaw6_LimitCodes.j5 d_0 t5 t8 r35 r36 r39 r40 Q w38

def trovelaw6_LimitCodes.j3 (d_0 : Sl) (i_1 : Int) (t5 : Sl) (Q : Value → World → Prop) (w : World) : Prop :=
  Calls Try.prog 11 ⟨[.slice t5.a t5.len t5.cap, .int .i64 i_1]⟩ w fun e41 w42 =>
  ∃ r43 : Sl, ∃ r44 : Int, e41 = .returned (.tuple ⟨[.slice r43.a r43.len r43.cap, .int .i64 r44]⟩) ∧
  trovelaw6_LimitCodes.j4 d_0 i_1 t5 r43 r44 Q w42

def trovelaw6_LimitCodes.b3 (d_0 : Sl) (i_1 : Int) (t5 : Sl) (t6 : Int) (Q : Value → World → Prop) (nx3 : Sl → Int → Sl → Int → World → Prop) (w : World) : Prop :=
  br (decide ((t6 : Int) < ((d_0.len : Nat) : Int))) (
  ixS d_0.a d_0.len t6 1 fun a45 =>
  ldI .u8 w a45 fun x46 =>
  ixS t5.a t5.len x46 1 fun a47 =>
  ldI .i64 w a47 fun x48 =>
  lt (IntKind.i64.wrap (x48 + 1)) fun x49 =>
  ixS t5.a t5.len x46 1 fun a50 =>
  st w a50 (.int .i64 x49) fun w51 =>
  lt (IntKind.i64.wrap (t6 + 1)) fun x52 =>
  nx3 d_0 i_1 t5 x52 w51) (
  trovelaw6_LimitCodes.j3 d_0 i_1 t5 Q w)

def trovelaw6_LimitCodes.l3 (d_0 : Sl) (i_1 : Int) (t5 : Sl) (t6 : Int) (Q : Value → World → Prop) (w : World) : Prop :=
  ∃ (I : Int → World → Prop) (μ : Int → World → Nat), I t6 w ∧ ∀ t6 : Int, ∀ w : World, I t6 w → trovelaw6_LimitCodes.b3 d_0 i_1 t5 t6 Q (fun d_0' i_1' t5' t6' w' => (d_0' = d_0 ∧ i_1' = i_1 ∧ t5' = t5) ∧ I t6' w' ∧ μ t6' w' < μ t6 w) w

def trovelaw6_LimitCodes.j12 (d_0 : Sl) (i_1 : Int) (t5 : Sl) (t6 : Int) (Q : Value → World → Prop) (w : World) : Prop :=
  trovelaw6_LimitCodes.l3 d_0 i_1 t5 t6 Q w

def trovelaw6_LimitCodes.j2 (d_0 : Sl) (i_1 : Int) (t5 : Sl) (Q : Value → World → Prop) (w : World) : Prop :=
  trovelaw6_LimitCodes.j12 d_0 i_1 t5 0 Q w

def trovelaw6_LimitCodes.j1 (d_0 : Sl) (i_1 : Int) (Q : Value → World → Prop) (w : World) : Prop :=
  br ((((d_0.len : Nat) : Int) : Int) == 0) (
  Q (.bool true) w) (
  br (decide ((((d_0.len : Nat) : Int) : Int) > 600)) (
  Q (.bool true) w) (
  br (decide ((i_1 : Int) < 8)) (
  Q (.bool true) w) (
  br (decide ((i_1 : Int) > 15)) (
  Q (.bool true) w) (
  mkK Try.prog 3 w 256 256 fun s53 w54 =>
  trovelaw6_LimitCodes.j2 d_0 i_1 s53 Q w54))))

def trovelaw6_LimitCodes (d_0 : Sl) (i_1 : Int) (Q : Value → World → Prop) (w : World) : Prop :=
  Calls Try.prog 9 ⟨[]⟩ w fun e55 w56 =>
  ∃ r57 : Bool, e55 = .returned (.bool r57) ∧
  br (!r57) (
  Q (.bool false) w56) (
  trovelaw6_LimitCodes.j1 d_0 i_1 Q w56)

theorem trovelaw6_LimitCodes.ok (d_0 : Sl) (i_1 : Int) (Q : Value → World → Prop) (w : World) (h : trovelaw6_LimitCodes d_0 i_1 Q w) : Calls Try.prog 5 ⟨[.slice d_0.a d_0.len d_0.cap, .int .i64 i_1]⟩ w (Ret Q) := by
  refine calls_of_wpc [.tmp 4] Try.func5 rfl rfl rfl rfl ?_
  refine wpc_pre2 hmix (fun ρ w => asL (ρ 0) fun d_0 => asI .i64 (ρ 1) fun i_1 => trovelaw6_LimitCodes.j1 d_0 i_1 Q w) (Eq.mp (by kernel_rfl) h) ?_
  intro ρ w h
  obtain ⟨d_0, e0, h⟩ := asL_el h
  obtain ⟨i_1, e1, h⟩ := asI_el h
  refine reroot e0 (reroot (upd_other e1 rfl) ?_)
  refine wpc_pre2 hmix (fun ρ w => asL (ρ 0) fun d_0 => asI .i64 (ρ 1) fun i_1 => asL (ρ 5) fun t5 => trovelaw6_LimitCodes.j2 d_0 i_1 t5 Q w) (Eq.mp (by kernel_rfl) h) ?_
  intro ρ w h
  obtain ⟨d_0, e0, h⟩ := asL_el h
  obtain ⟨i_1, e1, h⟩ := asI_el h
  obtain ⟨t5, e5, h⟩ := asL_el h
  refine reroot e0 (reroot (upd_other e1 rfl) (reroot (upd_other (upd_other e5 rfl) rfl) ?_))
  refine wpc_seq (fun ρ w => asL (ρ 0) fun d_0 => asI .i64 (ρ 1) fun i_1 => asL (ρ 5) fun t5 => trovelaw6_LimitCodes.j3 d_0 i_1 t5 Q w) ?_ ?_
  · skip
    refine wpc_seq (fun ρ w => asL (ρ 0) fun d_0 => asI .i64 (ρ 1) fun i_1 => asL (ρ 5) fun t5 => asI .i64 (ρ 6) fun t6 => trovelaw6_LimitCodes.j12 d_0 i_1 t5 t6 Q w) ?_ ?_
    · skip
      exact pt_sound hmix _ (Eq.mp (by kernel_rfl) h)
    · intro ρ w h
      obtain ⟨d_0, e0, h⟩ := asL_el h
      obtain ⟨i_1, e1, h⟩ := asI_el h
      obtain ⟨t5, e5, h⟩ := asL_el h
      obtain ⟨t6, e6, h⟩ := asI_el h
      refine reroot e0 (reroot (upd_other e1 rfl) (reroot (upd_other (upd_other e5 rfl) rfl) (reroot (upd_other (upd_other (upd_other e6 rfl) rfl) rfl) ?_)))
      refine wpc_block ?_
      obtain ⟨I, μ, hI, hr⟩ := h
      refine wpc_loopS (α := Int) (fun s ρ => ρ 6 = .int .i64 s ∧ ρ 0 = .slice d_0.a d_0.len d_0.cap ∧ ρ 1 = .int .i64 i_1 ∧ ρ 5 = .slice t5.a t5.len t5.cap) (fun s w => I s w) (fun s w => μ s w) t6 ⟨rfl, rfl, rfl, rfl⟩ hI ?_
      rintro t6 ρ w ⟨e6, e0, e1, e5⟩ hI
      have h := hr t6 w hI
      clear hr
      obtain ⟨nx3, hnx⟩ : ∃ nx : Sl → Int → Sl → Int → World → Prop, nx = (fun d_0' i_1' t5' t6' w' => (d_0' = d_0 ∧ i_1' = i_1 ∧ t5' = t5) ∧ I t6' w' ∧ μ t6' w' < μ t6 w) := ⟨_, rfl⟩
      rw [← hnx] at h
      refine wpc_norm (M := fun ρ w => asL (ρ 0) fun d_0 => asI .i64 (ρ 1) fun i_1 => asL (ρ 5) fun t5 => asI .i64 (ρ 6) fun t6 => nx3 d_0 i_1 t5 t6 w) ?_ (fun ρ w h => ?_)
      · skip
        refine reroot e0 (reroot (upd_other e1 rfl) (reroot (upd_other (upd_other e5 rfl) rfl) (reroot (upd_other (upd_other (upd_other e6 rfl) rfl) rfl) ?_)))
        exact pt_sound hmix _ (Eq.mp (by kernel_rfl) h)
      · skip
        obtain ⟨d_0', e0', h⟩ := asL_el h
        obtain ⟨i_1', e1', h⟩ := asI_el h
        obtain ⟨t5', e5', h⟩ := asL_el h
        obtain ⟨t6', e6', h⟩ := asI_el h
        rw [hnx] at h
        obtain ⟨hu, hI2, hμ⟩ := h
        obtain ⟨rfl, rfl, rfl⟩ := hu
        exact ⟨t6', ⟨e6', e0', e1', e5'⟩, hI2, hμ⟩
  · intro ρ w h
    obtain ⟨d_0, e0, h⟩ := asL_el h
    obtain ⟨i_1, e1, h⟩ := asI_el h
    obtain ⟨t5, e5, h⟩ := asL_el h
    refine reroot e0 (reroot (upd_other e1 rfl) (reroot (upd_other (upd_other e5 rfl) rfl) ?_))
    refine wpc_seq (fun ρ w => asL (ρ 0) fun d_0 => asI .i64 (ρ 1) fun i_1 => asL (ρ 5) fun t5 => asL (ρ 7) fun t7 => asI .i64 (ρ 8) fun t8 => trovelaw6_LimitCodes.j4 d_0 i_1 t5 t7 t8 Q w) ?_ ?_
    · skip
      exact pt_sound hmix _ (Eq.mp (by kernel_rfl) h)
    · intro ρ w h
      obtain ⟨d_0, e0, h⟩ := asL_el h
      obtain ⟨i_1, e1, h⟩ := asI_el h
      obtain ⟨t5, e5, h⟩ := asL_el h
      obtain ⟨t7, e7, h⟩ := asL_el h
      obtain ⟨t8, e8, h⟩ := asI_el h
      refine reroot e0 (reroot (upd_other e1 rfl) (reroot (upd_other (upd_other e5 rfl) rfl) (reroot (upd_other (upd_other (upd_other e7 rfl) rfl) rfl) (reroot (upd_other (upd_other (upd_other (upd_other e8 rfl) rfl) rfl) rfl) ?_))))
      refine wpc_pre2 hmix (fun ρ w => asL (ρ 0) fun d_0 => asL (ρ 5) fun t5 => asI .i64 (ρ 8) fun t8 => asI .i64 (ρ 9) fun t9 => asI .i64 (ρ 10) fun t10 => asP (ρ 11) fun t11 => asI .i64 (ρ 12) fun t12 => trovelaw6_LimitCodes.j5 d_0 t5 t8 t9 t10 t11 t12 Q w) (Eq.mp (by kernel_rfl) h) ?_
      intro ρ w h
      obtain ⟨d_0, e0, h⟩ := asL_el h
      obtain ⟨t5, e5, h⟩ := asL_el h
      obtain ⟨t8, e8, h⟩ := asI_el h
      obtain ⟨t9, e9, h⟩ := asI_el h
      obtain ⟨t10, e10, h⟩ := asI_el h
      obtain ⟨t11, e11, h⟩ := asP_el h
      obtain ⟨t12, e12, h⟩ := asI_el h
      refine reroot e0 (reroot (upd_other e5 rfl) (reroot (upd_other (upd_other e8 rfl) rfl) (reroot (upd_other (upd_other (upd_other e9 rfl) rfl) rfl) (reroot (upd_other (upd_other (upd_other (upd_other e10 rfl) rfl) rfl) rfl) (reroot (upd_other (upd_other (upd_other (upd_other (upd_other e11 rfl) rfl) rfl) rfl) rfl) (reroot (upd_other (upd_other (upd_other (upd_other (upd_other (upd_other e12 rfl) rfl) rfl) rfl) rfl) rfl) ?_))))))
      refine wpc_pre2 hmix (fun ρ w => asL (ρ 0) fun d_0 => asI .i64 (ρ 9) fun t9 => asP (ρ 11) fun t11 => asP (ρ 13) fun t13 => trovelaw6_LimitCodes.j6 d_0 t9 t11 t13 Q w) (Eq.mp (by kernel_rfl) h) ?_
      intro ρ w h
      obtain ⟨d_0, e0, h⟩ := asL_el h
      obtain ⟨t9, e9, h⟩ := asI_el h
      obtain ⟨t11, e11, h⟩ := asP_el h
      obtain ⟨t13, e13, h⟩ := asP_el h
      refine reroot e0 (reroot (upd_other e9 rfl) (reroot (upd_other (upd_other e11 rfl) rfl) (reroot (upd_other (upd_other (upd_other e13 rfl) rfl) rfl) ?_)))
      refine wpc_seq (fun ρ w => asL (ρ 0) fun d_0 => asI .i64 (ρ 9) fun t9 => asP (ρ 11) fun t11 => asP (ρ 13) fun t13 => trovelaw6_LimitCodes.j7 d_0 t9 t11 t13 Q w) ?_ ?_
      · skip
        refine wpc_seq (fun ρ w => asL (ρ 0) fun d_0 => asI .i64 (ρ 9) fun t9 => asP (ρ 11) fun t11 => asP (ρ 13) fun t13 => asI .i64 (ρ 14) fun t14 => trovelaw6_LimitCodes.j11 d_0 t9 t11 t13 t14 Q w) ?_ ?_
        · skip
          exact pt_sound hmix _ (Eq.mp (by kernel_rfl) h)
        · intro ρ w h
          obtain ⟨d_0, e0, h⟩ := asL_el h
          obtain ⟨t9, e9, h⟩ := asI_el h
          obtain ⟨t11, e11, h⟩ := asP_el h
          obtain ⟨t13, e13, h⟩ := asP_el h
          obtain ⟨t14, e14, h⟩ := asI_el h
          refine reroot e0 (reroot (upd_other e9 rfl) (reroot (upd_other (upd_other e11 rfl) rfl) (reroot (upd_other (upd_other (upd_other e13 rfl) rfl) rfl) (reroot (upd_other (upd_other (upd_other (upd_other e14 rfl) rfl) rfl) rfl) ?_))))
          refine wpc_block ?_
          obtain ⟨I, μ, hI, hr⟩ := h
          refine wpc_loopS (α := Int) (fun s ρ => ρ 14 = .int .i64 s ∧ ρ 0 = .slice d_0.a d_0.len d_0.cap ∧ ρ 9 = .int .i64 t9 ∧ ρ 11 = .pointer t11 ∧ ρ 13 = .pointer t13) (fun s w => I s w) (fun s w => μ s w) t14 ⟨rfl, rfl, rfl, rfl, rfl⟩ hI ?_
          rintro t14 ρ w ⟨e14, e0, e9, e11, e13⟩ hI
          have h := hr t14 w hI
          clear hr
          obtain ⟨nx2, hnx⟩ : ∃ nx : Sl → Int → (Option Addr) → (Option Addr) → Int → World → Prop, nx = (fun d_0' t9' t11' t13' t14' w' => (d_0' = d_0 ∧ t9' = t9 ∧ t11' = t11 ∧ t13' = t13) ∧ I t14' w' ∧ μ t14' w' < μ t14 w) := ⟨_, rfl⟩
          rw [← hnx] at h
          refine wpc_norm (M := fun ρ w => asL (ρ 0) fun d_0 => asI .i64 (ρ 9) fun t9 => asP (ρ 11) fun t11 => asP (ρ 13) fun t13 => asI .i64 (ρ 14) fun t14 => nx2 d_0 t9 t11 t13 t14 w) ?_ (fun ρ w h => ?_)
          · skip
            refine reroot e0 (reroot (upd_other e9 rfl) (reroot (upd_other (upd_other e11 rfl) rfl) (reroot (upd_other (upd_other (upd_other e13 rfl) rfl) rfl) (reroot (upd_other (upd_other (upd_other (upd_other e14 rfl) rfl) rfl) rfl) ?_))))
            exact pt_sound hmix _ (Eq.mp (by kernel_rfl) h)
          · skip
            obtain ⟨d_0', e0', h⟩ := asL_el h
            obtain ⟨t9', e9', h⟩ := asI_el h
            obtain ⟨t11', e11', h⟩ := asP_el h
            obtain ⟨t13', e13', h⟩ := asP_el h
            obtain ⟨t14', e14', h⟩ := asI_el h
            rw [hnx] at h
            obtain ⟨hu, hI2, hμ⟩ := h
            obtain ⟨rfl, rfl, rfl, rfl⟩ := hu
            exact ⟨t14', ⟨e14', e0', e9', e11', e13'⟩, hI2, hμ⟩
      · intro ρ w h
        obtain ⟨d_0, e0, h⟩ := asL_el h
        obtain ⟨t9, e9, h⟩ := asI_el h
        obtain ⟨t11, e11, h⟩ := asP_el h
        obtain ⟨t13, e13, h⟩ := asP_el h
        refine reroot e0 (reroot (upd_other e9 rfl) (reroot (upd_other (upd_other e11 rfl) rfl) (reroot (upd_other (upd_other (upd_other e13 rfl) rfl) rfl) ?_)))
        refine wpc_pre2 hmix (fun ρ w => asL (ρ 0) fun d_0 => asP (ρ 11) fun t11 => asP (ρ 15) fun t15 => trovelaw6_LimitCodes.j8 d_0 t11 t15 Q w) (Eq.mp (by kernel_rfl) h) ?_
        intro ρ w h
        obtain ⟨d_0, e0, h⟩ := asL_el h
        obtain ⟨t11, e11, h⟩ := asP_el h
        obtain ⟨t15, e15, h⟩ := asP_el h
        refine reroot e0 (reroot (upd_other e11 rfl) (reroot (upd_other (upd_other e15 rfl) rfl) ?_))
        refine wpc_seq (fun ρ w =>  trovelaw6_LimitCodes.j9  Q w) ?_ ?_
        · skip
          refine wpc_seq (fun ρ w => asL (ρ 0) fun d_0 => asP (ρ 11) fun t11 => asP (ρ 15) fun t15 => asI .i64 (ρ 16) fun t16 => trovelaw6_LimitCodes.j10 d_0 t11 t15 t16 Q w) ?_ ?_
          · skip
            exact pt_sound hmix _ (Eq.mp (by kernel_rfl) h)
          · intro ρ w h
            obtain ⟨d_0, e0, h⟩ := asL_el h
            obtain ⟨t11, e11, h⟩ := asP_el h
            obtain ⟨t15, e15, h⟩ := asP_el h
            obtain ⟨t16, e16, h⟩ := asI_el h
            refine reroot e0 (reroot (upd_other e11 rfl) (reroot (upd_other (upd_other e15 rfl) rfl) (reroot (upd_other (upd_other (upd_other e16 rfl) rfl) rfl) ?_)))
            refine wpc_block ?_
            obtain ⟨I, μ, hI, hr⟩ := h
            refine wpc_loopS (α := Int) (fun s ρ => ρ 16 = .int .i64 s ∧ ρ 0 = .slice d_0.a d_0.len d_0.cap ∧ ρ 11 = .pointer t11 ∧ ρ 15 = .pointer t15) (fun s w => I s w) (fun s w => μ s w) t16 ⟨rfl, rfl, rfl, rfl⟩ hI ?_
            rintro t16 ρ w ⟨e16, e0, e11, e15⟩ hI
            have h := hr t16 w hI
            clear hr
            obtain ⟨nx1, hnx⟩ : ∃ nx : Sl → (Option Addr) → (Option Addr) → Int → World → Prop, nx = (fun d_0' t11' t15' t16' w' => (d_0' = d_0 ∧ t11' = t11 ∧ t15' = t15) ∧ I t16' w' ∧ μ t16' w' < μ t16 w) := ⟨_, rfl⟩
            rw [← hnx] at h
            refine wpc_norm (M := fun ρ w => asL (ρ 0) fun d_0 => asP (ρ 11) fun t11 => asP (ρ 15) fun t15 => asI .i64 (ρ 16) fun t16 => nx1 d_0 t11 t15 t16 w) ?_ (fun ρ w h => ?_)
            · skip
              refine reroot e0 (reroot (upd_other e11 rfl) (reroot (upd_other (upd_other e15 rfl) rfl) (reroot (upd_other (upd_other (upd_other e16 rfl) rfl) rfl) ?_)))
              exact pt_sound hmix _ (Eq.mp (by kernel_rfl) h)
            · skip
              obtain ⟨d_0', e0', h⟩ := asL_el h
              obtain ⟨t11', e11', h⟩ := asP_el h
              obtain ⟨t15', e15', h⟩ := asP_el h
              obtain ⟨t16', e16', h⟩ := asI_el h
              rw [hnx] at h
              obtain ⟨hu, hI2, hμ⟩ := h
              obtain ⟨rfl, rfl, rfl⟩ := hu
              exact ⟨t16', ⟨e16', e0', e11', e15'⟩, hI2, hμ⟩
        · intro ρ w h
          exact pt_sound hmix _ (Eq.mp (by kernel_rfl) h)

end Go.Proofs.Ythdmmmfgjmmelaa
