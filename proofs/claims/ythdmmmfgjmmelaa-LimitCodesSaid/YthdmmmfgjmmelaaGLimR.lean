/- PRINTED BY gen.py (own work): what calls come to, and the proofs of it. -/
import Derived.Test.YthdmmmfgjmmelaaVcJ
import Derived.Test.YthdmmmfgjmmelaaProg
namespace Go.Proofs.Ythdmmmfgjmmelaa
open Go Go.Proofs
set_option linter.unusedVariables false
set_option maxRecDepth 100000

/-! trove/troveref6.Check -/
def troveref6_Check.j2  (Q : Value → World → Prop) (w : World) : Prop :=
  Q (.int .i64 0) w

def troveref6_Check.b1 (counts_0 : Sl) (i_3 : Int) (Q : Value → World → Prop) (nx1 : Sl → Int → World → Prop) (w : World) : Prop :=
  br (decide ((i_3 : Int) < ((counts_0.len : Nat) : Int))) (
  ixS counts_0.a counts_0.len i_3 1 fun a1 =>
  ldI .i64 w a1 fun x2 =>
  br (decide ((x2 : Int) < 0)) (
  Q (.int .i64 1) w) (
  ixS counts_0.a counts_0.len i_3 1 fun a3 =>
  ldI .i64 w a3 fun x4 =>
  br (decide ((x4 : Int) > 16777216)) (
  Q (.int .i64 1) w) (
  lt (IntKind.i64.wrap (i_3 + 1)) fun x5 =>
  nx1 counts_0 x5 w))) (
  troveref6_Check.j2 Q w)

def troveref6_Check.l1 (counts_0 : Sl) (i_3 : Int) (Q : Value → World → Prop) (w : World) : Prop :=
  ∃ (I : Int → World → Prop) (μ : Int → World → Nat), I i_3 w ∧ ∀ i_3 : Int, ∀ w : World, I i_3 w → troveref6_Check.b1 counts_0 i_3 Q (fun counts_0' i_3' w' => (counts_0' = counts_0) ∧ I i_3' w' ∧ μ i_3' w' < μ i_3 w) w

def troveref6_Check.j3 (counts_0 : Sl) (i_3 : Int) (Q : Value → World → Prop) (w : World) : Prop :=
  troveref6_Check.l1 counts_0 i_3 Q w

def troveref6_Check.j1 (counts_0 : Sl) (Q : Value → World → Prop) (w : World) : Prop :=
  troveref6_Check.j3 counts_0 0 Q w

def troveref6_Check (counts_0 : Sl) (Q : Value → World → Prop) (w : World) : Prop :=
  br (decide ((((counts_0.len : Nat) : Int) : Int) > 288)) (
  Q (.int .i64 1) w) (
  troveref6_Check.j1 counts_0 Q w)

theorem troveref6_Check.ok (counts_0 : Sl) (Q : Value → World → Prop) (w : World) (h : troveref6_Check counts_0 Q w) : Calls Try.prog 43 ⟨[.slice counts_0.a counts_0.len counts_0.cap]⟩ w (Ret Q) := by
  refine calls_of_wpc [.tmp 2] Try.func43 rfl rfl rfl rfl ?_
  refine wpc_pre2 hmix (fun ρ w => asL (ρ 0) fun counts_0 => troveref6_Check.j1 counts_0 Q w) (Eq.mp (by kernel_rfl) h) ?_
  intro ρ w h
  obtain ⟨counts_0, e0, h⟩ := asL_el h
  refine reroot e0 ?_
  refine wpc_seq (fun ρ w =>  troveref6_Check.j2  Q w) ?_ ?_
  · skip
    refine wpc_seq (fun ρ w => asL (ρ 0) fun counts_0 => asI .i64 (ρ 3) fun i_3 => troveref6_Check.j3 counts_0 i_3 Q w) ?_ ?_
    · skip
      exact pt_sound hmix _ (Eq.mp (by kernel_rfl) h)
    · intro ρ w h
      obtain ⟨counts_0, e0, h⟩ := asL_el h
      obtain ⟨i_3, e3, h⟩ := asI_el h
      refine reroot e0 (reroot (upd_other e3 rfl) ?_)
      refine wpc_block ?_
      obtain ⟨I, μ, hI, hr⟩ := h
      refine wpc_loopS (α := Int) (fun s ρ => ρ 3 = .int .i64 s ∧ ρ 0 = .slice counts_0.a counts_0.len counts_0.cap) (fun s w => I s w) (fun s w => μ s w) i_3 ⟨rfl, rfl⟩ hI ?_
      rintro i_3 ρ w ⟨e3, e0⟩ hI
      have h := hr i_3 w hI
      clear hr
      obtain ⟨nx1, hnx⟩ : ∃ nx : Sl → Int → World → Prop, nx = (fun counts_0' i_3' w' => (counts_0' = counts_0) ∧ I i_3' w' ∧ μ i_3' w' < μ i_3 w) := ⟨_, rfl⟩
      rw [← hnx] at h
      refine wpc_norm (M := fun ρ w => asL (ρ 0) fun counts_0 => asI .i64 (ρ 3) fun i_3 => nx1 counts_0 i_3 w) ?_ (fun ρ w h => ?_)
      · skip
        refine reroot e0 (reroot (upd_other e3 rfl) ?_)
        exact pt_sound hmix _ (Eq.mp (by kernel_rfl) h)
      · skip
        obtain ⟨counts_0', e0', h⟩ := asL_el h
        obtain ⟨i_3', e3', h⟩ := asI_el h
        rw [hnx] at h
        obtain ⟨hu, hI2, hμ⟩ := h
        obtain rfl := hu
        exact ⟨i_3', ⟨e3', e0'⟩, hI2, hμ⟩
  · intro ρ w h
    exact pt_sound hmix _ (Eq.mp (by kernel_rfl) h)

/-! trove/troveref6.put -/
def troveref6_put.j2 (l_0 : Sl) (n_1 : Int) (k_5 : Int) (Q : Value → World → Prop) (w : World) : Prop :=
  lt (⟨World.heapSize w, 0, none⟩ : Addr) fun a1 =>
  lt (World.alloc w (.cells ⟨[]⟩ 3)) fun w2 =>
  bd k_5 l_0.cap fun n3 =>
  lt (⟨cutA l_0.a l_0.cap 0 1, n3 - 0, l_0.cap - 0⟩ : Sl) fun s4 =>
  rdO w2 s4.a (s4.len * 1) fun c5 =>
  apK Try.prog 3 w2 (some a1) 0 0 s4.len c5 fun s6 w7 =>
  lt (⟨World.heapSize w7, 0, none⟩ : Addr) fun a8 =>
  lt (World.alloc w7 (.cells ⟨[.int .i64 n_1]⟩ 3)) fun w9 =>
  rdO w9 (some a8) (1 * 1) fun c10 =>
  apK Try.prog 3 w9 s6.a s6.len s6.cap 1 c10 fun s11 w12 =>
  bd k_5 l_0.len fun n13 =>
  lt (⟨cutA l_0.a l_0.cap n13 1, l_0.len - n13, l_0.cap - n13⟩ : Sl) fun s14 =>
  rdO w12 s14.a (s14.len * 1) fun c15 =>
  apK Try.prog 3 w12 s11.a s11.len s11.cap s14.len c15 fun s16 w17 =>
  Q (.slice s16.a s16.len s16.cap) w17

def troveref6_put.b1 (l_0 : Sl) (n_1 : Int) (k_5 : Int) (Q : Value → World → Prop) (nx1 : Sl → Int → Int → World → Prop) (w : World) : Prop :=
  br (decide ((k_5 : Int) < ((l_0.len : Nat) : Int))) (
  ixS l_0.a l_0.len k_5 1 fun a18 =>
  ldI .i64 w a18 fun x19 =>
  br (decide ((x19 : Int) ≤ n_1)) (
  lt (IntKind.i64.wrap (k_5 + 1)) fun x20 =>
  nx1 l_0 n_1 x20 w) (
  troveref6_put.j2 l_0 n_1 k_5 Q w)) (
  troveref6_put.j2 l_0 n_1 k_5 Q w)

def troveref6_put.l1 (l_0 : Sl) (n_1 : Int) (k_5 : Int) (Q : Value → World → Prop) (w : World) : Prop :=
  ∃ (I : Int → World → Prop) (μ : Int → World → Nat), I k_5 w ∧ ∀ k_5 : Int, ∀ w : World, I k_5 w → troveref6_put.b1 l_0 n_1 k_5 Q (fun l_0' n_1' k_5' w' => (l_0' = l_0 ∧ n_1' = n_1) ∧ I k_5' w' ∧ μ k_5' w' < μ k_5 w) w

def troveref6_put.j1 (l_0 : Sl) (n_1 : Int) (k_5 : Int) (Q : Value → World → Prop) (w : World) : Prop :=
  troveref6_put.l1 l_0 n_1 k_5 Q w

def troveref6_put (l_0 : Sl) (n_1 : Int) (Q : Value → World → Prop) (w : World) : Prop :=
  troveref6_put.j1 l_0 n_1 0 Q w

theorem troveref6_put.ok (l_0 : Sl) (n_1 : Int) (Q : Value → World → Prop) (w : World) (h : troveref6_put l_0 n_1 Q w) : Calls Try.prog 46 ⟨[.slice l_0.a l_0.len l_0.cap, .int .i64 n_1]⟩ w (Ret Q) := by
  refine calls_of_wpc [.tmp 4] Try.func46 rfl rfl rfl rfl ?_
  refine wpc_pre2 hmix (fun ρ w => asL (ρ 0) fun l_0 => asI .i64 (ρ 1) fun n_1 => asI .i64 (ρ 5) fun k_5 => troveref6_put.j1 l_0 n_1 k_5 Q w) (Eq.mp (by kernel_rfl) h) ?_
  intro ρ w h
  obtain ⟨l_0, e0, h⟩ := asL_el h
  obtain ⟨n_1, e1, h⟩ := asI_el h
  obtain ⟨k_5, e5, h⟩ := asI_el h
  refine reroot e0 (reroot (upd_other e1 rfl) (reroot (upd_other (upd_other e5 rfl) rfl) ?_))
  refine wpc_seq (fun ρ w => asL (ρ 0) fun l_0 => asI .i64 (ρ 1) fun n_1 => asI .i64 (ρ 5) fun k_5 => troveref6_put.j2 l_0 n_1 k_5 Q w) ?_ ?_
  · skip
    refine wpc_block ?_
    obtain ⟨I, μ, hI, hr⟩ := h
    refine wpc_loopS (α := Int) (fun s ρ => ρ 5 = .int .i64 s ∧ ρ 0 = .slice l_0.a l_0.len l_0.cap ∧ ρ 1 = .int .i64 n_1) (fun s w => I s w) (fun s w => μ s w) k_5 ⟨rfl, rfl, rfl⟩ hI ?_
    rintro k_5 ρ w ⟨e5, e0, e1⟩ hI
    have h := hr k_5 w hI
    clear hr
    obtain ⟨nx1, hnx⟩ : ∃ nx : Sl → Int → Int → World → Prop, nx = (fun l_0' n_1' k_5' w' => (l_0' = l_0 ∧ n_1' = n_1) ∧ I k_5' w' ∧ μ k_5' w' < μ k_5 w) := ⟨_, rfl⟩
    rw [← hnx] at h
    refine wpc_norm (M := fun ρ w => asL (ρ 0) fun l_0 => asI .i64 (ρ 1) fun n_1 => asI .i64 (ρ 5) fun k_5 => nx1 l_0 n_1 k_5 w) ?_ (fun ρ w h => ?_)
    · skip
      refine reroot e0 (reroot (upd_other e1 rfl) (reroot (upd_other (upd_other e5 rfl) rfl) ?_))
      exact pt_sound hmix _ (Eq.mp (by kernel_rfl) h)
    · skip
      obtain ⟨l_0', e0', h⟩ := asL_el h
      obtain ⟨n_1', e1', h⟩ := asI_el h
      obtain ⟨k_5', e5', h⟩ := asI_el h
      rw [hnx] at h
      obtain ⟨hu, hI2, hμ⟩ := h
      obtain ⟨rfl, rfl⟩ := hu
      exact ⟨k_5', ⟨e5', e0', e1'⟩, hI2, hμ⟩
  · intro ρ w h
    obtain ⟨l_0, e0, h⟩ := asL_el h
    obtain ⟨n_1, e1, h⟩ := asI_el h
    obtain ⟨k_5, e5, h⟩ := asI_el h
    refine reroot e0 (reroot (upd_other e1 rfl) (reroot (upd_other (upd_other e5 rfl) rfl) ?_))
    exact pt_sound hmix _ (Eq.mp (by kernel_rfl) h)

/-! trove/troveref6.some -/
def troveref6_some.j2 (out_3 : Sl) (Q : Value → World → Prop) (w : World) : Prop :=
  Q (.slice out_3.a out_3.len out_3.cap) w

def troveref6_some.b1 (counts_0 : Sl) (out_3 : Sl) (i_4 : Int) (Q : Value → World → Prop) (nx1 : Sl → Sl → Int → World → Prop) (w : World) : Prop :=
  br (decide ((i_4 : Int) < ((counts_0.len : Nat) : Int))) (
  ixS counts_0.a counts_0.len i_4 1 fun a1 =>
  ldI .i64 w a1 fun x2 =>
  br (decide ((x2 : Int) > 0)) (
  ixS counts_0.a counts_0.len i_4 1 fun a3 =>
  ldI .i64 w a3 fun x4 =>
  Calls Try.prog 46 ⟨[.slice out_3.a out_3.len out_3.cap, .int .i64 x4]⟩ w fun e5 w6 =>
  ∃ r7 : Sl, e5 = .returned (.slice r7.a r7.len r7.cap) ∧
  lt (IntKind.i64.wrap (i_4 + 1)) fun x8 =>
  nx1 counts_0 r7 x8 w6) (
  lt (IntKind.i64.wrap (i_4 + 1)) fun x9 =>
  nx1 counts_0 out_3 x9 w)) (
  troveref6_some.j2 out_3 Q w)

def troveref6_some.l1 (counts_0 : Sl) (out_3 : Sl) (i_4 : Int) (Q : Value → World → Prop) (w : World) : Prop :=
  ∃ (I : Sl → Int → World → Prop) (μ : Sl → Int → World → Nat), I out_3 i_4 w ∧ ∀ out_3 : Sl, ∀ i_4 : Int, ∀ w : World, I out_3 i_4 w → troveref6_some.b1 counts_0 out_3 i_4 Q (fun counts_0' out_3' i_4' w' => (counts_0' = counts_0) ∧ I out_3' i_4' w' ∧ μ out_3' i_4' w' < μ out_3 i_4 w) w

def troveref6_some.j3 (counts_0 : Sl) (out_3 : Sl) (i_4 : Int) (Q : Value → World → Prop) (w : World) : Prop :=
  troveref6_some.l1 counts_0 out_3 i_4 Q w

def troveref6_some.j1 (counts_0 : Sl) (out_3 : Sl) (Q : Value → World → Prop) (w : World) : Prop :=
  troveref6_some.j3 counts_0 out_3 0 Q w

def troveref6_some (counts_0 : Sl) (Q : Value → World → Prop) (w : World) : Prop :=
  troveref6_some.j1 counts_0 ⟨none, 0, 0⟩ Q w

theorem troveref6_some.ok (counts_0 : Sl) (Q : Value → World → Prop) (w : World) (h : troveref6_some counts_0 Q w) : Calls Try.prog 44 ⟨[.slice counts_0.a counts_0.len counts_0.cap]⟩ w (Ret Q) := by
  refine calls_of_wpc [.tmp 2] Try.func44 rfl rfl rfl rfl ?_
  refine wpc_pre2 hmix (fun ρ w => asL (ρ 0) fun counts_0 => asL (ρ 3) fun out_3 => troveref6_some.j1 counts_0 out_3 Q w) (Eq.mp (by kernel_rfl) h) ?_
  intro ρ w h
  obtain ⟨counts_0, e0, h⟩ := asL_el h
  obtain ⟨out_3, e3, h⟩ := asL_el h
  refine reroot e0 (reroot (upd_other e3 rfl) ?_)
  refine wpc_seq (fun ρ w => asL (ρ 3) fun out_3 => troveref6_some.j2 out_3 Q w) ?_ ?_
  · skip
    refine wpc_seq (fun ρ w => asL (ρ 0) fun counts_0 => asL (ρ 3) fun out_3 => asI .i64 (ρ 4) fun i_4 => troveref6_some.j3 counts_0 out_3 i_4 Q w) ?_ ?_
    · skip
      exact pt_sound hmix _ (Eq.mp (by kernel_rfl) h)
    · intro ρ w h
      obtain ⟨counts_0, e0, h⟩ := asL_el h
      obtain ⟨out_3, e3, h⟩ := asL_el h
      obtain ⟨i_4, e4, h⟩ := asI_el h
      refine reroot e0 (reroot (upd_other e3 rfl) (reroot (upd_other (upd_other e4 rfl) rfl) ?_))
      refine wpc_block ?_
      obtain ⟨I, μ, hI, hr⟩ := h
      refine wpc_loopS (α := Sl × Int) (fun s ρ => ρ 3 = .slice s.1.a s.1.len s.1.cap ∧ ρ 4 = .int .i64 s.2 ∧ ρ 0 = .slice counts_0.a counts_0.len counts_0.cap) (fun s w => I s.1 s.2 w) (fun s w => μ s.1 s.2 w) (out_3, i_4) ⟨rfl, rfl, rfl⟩ hI ?_
      rintro ⟨out_3, i_4⟩ ρ w ⟨e3, e4, e0⟩ hI
      have h := hr out_3 i_4 w hI
      clear hr
      obtain ⟨nx1, hnx⟩ : ∃ nx : Sl → Sl → Int → World → Prop, nx = (fun counts_0' out_3' i_4' w' => (counts_0' = counts_0) ∧ I out_3' i_4' w' ∧ μ out_3' i_4' w' < μ out_3 i_4 w) := ⟨_, rfl⟩
      rw [← hnx] at h
      refine wpc_norm (M := fun ρ w => asL (ρ 0) fun counts_0 => asL (ρ 3) fun out_3 => asI .i64 (ρ 4) fun i_4 => nx1 counts_0 out_3 i_4 w) ?_ (fun ρ w h => ?_)
      · skip
        refine reroot e0 (reroot (upd_other e3 rfl) (reroot (upd_other (upd_other e4 rfl) rfl) ?_))
        exact pt_sound hmix _ (Eq.mp (by kernel_rfl) h)
      · skip
        obtain ⟨counts_0', e0', h⟩ := asL_el h
        obtain ⟨out_3', e3', h⟩ := asL_el h
        obtain ⟨i_4', e4', h⟩ := asI_el h
        rw [hnx] at h
        obtain ⟨hu, hI2, hμ⟩ := h
        obtain rfl := hu
        exact ⟨(out_3', i_4'), ⟨e3', e4', e0'⟩, hI2, hμ⟩
  · intro ρ w h
    obtain ⟨out_3, e3, h⟩ := asL_el h
    refine reroot e3 ?_
    exact pt_sound hmix _ (Eq.mp (by kernel_rfl) h)

/-! trove/troveref6.Plain -/
def troveref6_Plain.j3 (cost_4 : Int) (Q : Value → World → Prop) (w : World) : Prop :=
  Q (.int .i64 cost_4) w

def troveref6_Plain.b1 (l_3 : Sl) (cost_4 : Int) (Q : Value → World → Prop) (nx1 : Sl → Int → World → Prop) (w : World) : Prop :=
  br (decide ((((l_3.len : Nat) : Int) : Int) > 1)) (
  lt (World.drew w) fun w1 =>
  ixS l_3.a l_3.len 0 1 fun a2 =>
  ldI .i64 w1 a2 fun x3 =>
  ixS l_3.a l_3.len 1 1 fun a4 =>
  ldI .i64 w1 a4 fun x5 =>
  lt (IntKind.i64.wrap (x3 + x5)) fun x6 =>
  lt (IntKind.i64.wrap (cost_4 + x6)) fun x7 =>
  bd 2 l_3.len fun n8 =>
  lt (⟨cutA l_3.a l_3.cap n8 1, l_3.len - n8, l_3.cap - n8⟩ : Sl) fun s9 =>
  Calls Try.prog 46 ⟨[.slice s9.a s9.len s9.cap, .int .i64 x6]⟩ w1 fun e10 w11 =>
  ∃ r12 : Sl, e10 = .returned (.slice r12.a r12.len r12.cap) ∧
  nx1 r12 x7 w11) (
  troveref6_Plain.j3 cost_4 Q w)

def troveref6_Plain.l1 (l_3 : Sl) (cost_4 : Int) (Q : Value → World → Prop) (w : World) : Prop :=
  ∃ (I : Sl → Int → World → Prop) (μ : Sl → Int → World → Nat), I l_3 cost_4 w ∧ ∀ l_3 : Sl, ∀ cost_4 : Int, ∀ w : World, I l_3 cost_4 w → troveref6_Plain.b1 l_3 cost_4 Q (fun l_3' cost_4' w' => (True) ∧ I l_3' cost_4' w' ∧ μ l_3' cost_4' w' < μ l_3 cost_4 w) w

def troveref6_Plain.j2 (l_3 : Sl) (cost_4 : Int) (Q : Value → World → Prop) (w : World) : Prop :=
  troveref6_Plain.l1 l_3 cost_4 Q w

def troveref6_Plain.j1 (l_3 : Sl) (Q : Value → World → Prop) (w : World) : Prop :=
  br ((((l_3.len : Nat) : Int) : Int) == 1) (
  ixS l_3.a l_3.len 0 1 fun a13 =>
  ldI .i64 w a13 fun x14 =>
  Q (.int .i64 x14) w) (
  troveref6_Plain.j2 l_3 0 Q w)

def troveref6_Plain (counts_0 : Sl) (Q : Value → World → Prop) (w : World) : Prop :=
  Calls Try.prog 44 ⟨[.slice counts_0.a counts_0.len counts_0.cap]⟩ w fun e15 w16 =>
  ∃ r17 : Sl, e15 = .returned (.slice r17.a r17.len r17.cap) ∧
  troveref6_Plain.j1 r17 Q w16

theorem troveref6_Plain.ok (counts_0 : Sl) (Q : Value → World → Prop) (w : World) (h : troveref6_Plain counts_0 Q w) : Calls Try.prog 45 ⟨[.slice counts_0.a counts_0.len counts_0.cap]⟩ w (Ret Q) := by
  refine calls_of_wpc [.tmp 2] Try.func45 rfl rfl rfl rfl ?_
  refine wpc_pre2 hmix (fun ρ w => asL (ρ 3) fun l_3 => troveref6_Plain.j1 l_3 Q w) (Eq.mp (by kernel_rfl) h) ?_
  intro ρ w h
  obtain ⟨l_3, e3, h⟩ := asL_el h
  refine reroot e3 ?_
  refine wpc_pre2 hmix (fun ρ w => asL (ρ 3) fun l_3 => asI .i64 (ρ 4) fun cost_4 => troveref6_Plain.j2 l_3 cost_4 Q w) (Eq.mp (by kernel_rfl) h) ?_
  intro ρ w h
  obtain ⟨l_3, e3, h⟩ := asL_el h
  obtain ⟨cost_4, e4, h⟩ := asI_el h
  refine reroot e3 (reroot (upd_other e4 rfl) ?_)
  refine wpc_seq (fun ρ w => asI .i64 (ρ 4) fun cost_4 => troveref6_Plain.j3 cost_4 Q w) ?_ ?_
  · skip
    refine wpc_block ?_
    obtain ⟨I, μ, hI, hr⟩ := h
    refine wpc_loopS (α := Sl × Int) (fun s ρ => ρ 3 = .slice s.1.a s.1.len s.1.cap ∧ ρ 4 = .int .i64 s.2) (fun s w => I s.1 s.2 w) (fun s w => μ s.1 s.2 w) (l_3, cost_4) ⟨rfl, rfl⟩ hI ?_
    rintro ⟨l_3, cost_4⟩ ρ w ⟨e3, e4⟩ hI
    have h := hr l_3 cost_4 w hI
    clear hr
    obtain ⟨nx1, hnx⟩ : ∃ nx : Sl → Int → World → Prop, nx = (fun l_3' cost_4' w' => (True) ∧ I l_3' cost_4' w' ∧ μ l_3' cost_4' w' < μ l_3 cost_4 w) := ⟨_, rfl⟩
    rw [← hnx] at h
    refine wpc_norm (M := fun ρ w => asL (ρ 3) fun l_3 => asI .i64 (ρ 4) fun cost_4 => nx1 l_3 cost_4 w) ?_ (fun ρ w h => ?_)
    · skip
      refine reroot e3 (reroot (upd_other e4 rfl) ?_)
      exact pt_sound hmix _ (Eq.mp (by kernel_rfl) h)
    · skip
      obtain ⟨l_3', e3', h⟩ := asL_el h
      obtain ⟨cost_4', e4', h⟩ := asI_el h
      rw [hnx] at h
      obtain ⟨hu, hI2, hμ⟩ := h
      exact ⟨(l_3', cost_4'), ⟨e3', e4'⟩, hI2, hμ⟩
  · intro ρ w h
    obtain ⟨cost_4, e4, h⟩ := asI_el h
    refine reroot e4 ?_
    exact pt_sound hmix _ (Eq.mp (by kernel_rfl) h)

/-! trove/troveref6.Least -/
def troveref6_Least.j7 (t12 : Int) (Q : Value → World → Prop) (w : World) : Prop :=
  Q (.tuple ⟨[.int .i64 t12, .int .i64 0]⟩) w

def troveref6_Least.b1 (t7 : Sl) (t8 : Sl) (t12 : Int) (t13 : Int) (Q : Value → World → Prop) (nx1 : Sl → Sl → Int → Int → World → Prop) (w : World) : Prop :=
  lt (IntKind.i64.wrap (2 * ((t7.len : Nat) : Int))) fun x1 =>
  lt (IntKind.i64.wrap (x1 - 2)) fun x2 =>
  br (decide ((t13 : Int) < x2)) (
  br (decide ((t13 : Int) < ((t8.len : Nat) : Int))) (
  ixS t8.a t8.len t13 1 fun a3 =>
  ldI .i64 w a3 fun x4 =>
  lt (IntKind.i64.wrap (t12 + x4)) fun x5 =>
  lt (IntKind.i64.wrap (t13 + 1)) fun x6 =>
  nx1 t7 t8 x5 x6 w) (
  troveref6_Least.j7 t12 Q w)) (
  troveref6_Least.j7 t12 Q w)

def troveref6_Least.l1 (t7 : Sl) (t8 : Sl) (t12 : Int) (t13 : Int) (Q : Value → World → Prop) (w : World) : Prop :=
  ∃ (I : Int → Int → World → Prop) (μ : Int → Int → World → Nat), I t12 t13 w ∧ ∀ t12 : Int, ∀ t13 : Int, ∀ w : World, I t12 t13 w → troveref6_Least.b1 t7 t8 t12 t13 Q (fun t7' t8' t12' t13' w' => (t7' = t7 ∧ t8' = t8) ∧ I t12' t13' w' ∧ μ t12' t13' w' < μ t12 t13 w) w

def troveref6_Least.j8 (t7 : Sl) (t8 : Sl) (t12 : Int) (t13 : Int) (Q : Value → World → Prop) (w : World) : Prop :=
  troveref6_Least.l1 t7 t8 t12 t13 Q w

def troveref6_Least.j6 (t7 : Sl) (t8 : Sl) (t12 : Int) (Q : Value → World → Prop) (w : World) : Prop :=
  troveref6_Least.j8 t7 t8 t12 0 Q w

def troveref6_Least.j5 (t7 : Sl) (t8 : Sl) (Q : Value → World → Prop) (w : World) : Prop :=
  troveref6_Least.j6 t7 t8 0 Q w

def troveref6_Least.j11 (i_1 : Int) (t7 : Sl) (t8 : Sl) (t9 : Int) (Q : Value → World → Prop) (nx2 : Int → Sl → Sl → Int → World → Prop) (w : World) : Prop :=
  lt (IntKind.i64.wrap (t9 + 1)) fun x7 =>
  nx2 i_1 t7 t8 x7 w

def troveref6_Least.j13 (i_1 : Int) (t7 : Sl) (t9 : Int) (t10 : Sl) (Q : Value → World → Prop) (nx2 : Int → Sl → Sl → Int → World → Prop) (w : World) : Prop :=
  troveref6_Least.j11 i_1 t7 t10 t9 Q nx2 w

def troveref6_Least.b3 (i_1 : Int) (t7 : Sl) (t8 : Sl) (t9 : Int) (t10 : Sl) (t11 : Int) (Q : Value → World → Prop) (nx2 : Int → Sl → Sl → Int → World → Prop) (nx3 : Int → Sl → Sl → Int → Sl → Int → World → Prop) (w : World) : Prop :=
  lt (IntKind.i64.wrap (t11 + 1)) fun x8 =>
  br (decide ((x8 : Int) < ((t8.len : Nat) : Int))) (
  lt (World.drew w) fun w9 =>
  ixS t8.a t8.len t11 1 fun a10 =>
  ldI .i64 w9 a10 fun x11 =>
  lt (IntKind.i64.wrap (t11 + 1)) fun x12 =>
  ixS t8.a t8.len x12 1 fun a13 =>
  ldI .i64 w9 a13 fun x14 =>
  lt (IntKind.i64.wrap (x11 + x14)) fun x15 =>
  Calls Try.prog 46 ⟨[.slice t10.a t10.len t10.cap, .int .i64 x15]⟩ w9 fun e16 w17 =>
  ∃ r18 : Sl, e16 = .returned (.slice r18.a r18.len r18.cap) ∧
  lt (IntKind.i64.wrap (t11 + 2)) fun x19 =>
  nx3 i_1 t7 t8 t9 r18 x19 w17) (
  troveref6_Least.j13 i_1 t7 t9 t10 Q nx2 w)

def troveref6_Least.l3 (i_1 : Int) (t7 : Sl) (t8 : Sl) (t9 : Int) (t10 : Sl) (t11 : Int) (Q : Value → World → Prop) (nx2 : Int → Sl → Sl → Int → World → Prop) (w : World) : Prop :=
  ∃ (I : Sl → Int → World → Prop) (μ : Sl → Int → World → Nat), I t10 t11 w ∧ ∀ t10 : Sl, ∀ t11 : Int, ∀ w : World, I t10 t11 w → troveref6_Least.b3 i_1 t7 t8 t9 t10 t11 Q nx2 (fun i_1' t7' t8' t9' t10' t11' w' => (i_1' = i_1 ∧ t7' = t7 ∧ t8' = t8 ∧ t9' = t9) ∧ I t10' t11' w' ∧ μ t10' t11' w' < μ t10 t11 w) w

def troveref6_Least.j14 (i_1 : Int) (t7 : Sl) (t8 : Sl) (t9 : Int) (t10 : Sl) (t11 : Int) (Q : Value → World → Prop) (nx2 : Int → Sl → Sl → Int → World → Prop) (w : World) : Prop :=
  troveref6_Least.l3 i_1 t7 t8 t9 t10 t11 Q nx2 w

def troveref6_Least.j12 (i_1 : Int) (t7 : Sl) (t8 : Sl) (t9 : Int) (t10 : Sl) (Q : Value → World → Prop) (nx2 : Int → Sl → Sl → Int → World → Prop) (w : World) : Prop :=
  troveref6_Least.j14 i_1 t7 t8 t9 t10 0 Q nx2 w

def troveref6_Least.j10 (i_1 : Int) (t7 : Sl) (t8 : Sl) (t9 : Int) (Q : Value → World → Prop) (nx2 : Int → Sl → Sl → Int → World → Prop) (w : World) : Prop :=
  lt (⟨World.heapSize w, 0, none⟩ : Addr) fun a20 =>
  lt (World.alloc w (.cells ⟨[]⟩ 3)) fun w21 =>
  rdO w21 t7.a (t7.len * 1) fun c22 =>
  apK Try.prog 3 w21 (some a20) 0 0 t7.len c22 fun s23 w24 =>
  troveref6_Least.j12 i_1 t7 t8 t9 s23 Q nx2 w24

def troveref6_Least.b2 (i_1 : Int) (t7 : Sl) (t8 : Sl) (t9 : Int) (Q : Value → World → Prop) (nx2 : Int → Sl → Sl → Int → World → Prop) (w : World) : Prop :=
  br (decide ((t9 : Int) < i_1)) (
  troveref6_Least.j10 i_1 t7 t8 t9 Q nx2 w) (
  troveref6_Least.j5 t7 t8 Q w)

def troveref6_Least.l2 (i_1 : Int) (t7 : Sl) (t8 : Sl) (t9 : Int) (Q : Value → World → Prop) (w : World) : Prop :=
  ∃ (I : Sl → Int → World → Prop) (μ : Sl → Int → World → Nat), I t8 t9 w ∧ ∀ t8 : Sl, ∀ t9 : Int, ∀ w : World, I t8 t9 w → troveref6_Least.b2 i_1 t7 t8 t9 Q (fun i_1' t7' t8' t9' w' => (i_1' = i_1 ∧ t7' = t7) ∧ I t8' t9' w' ∧ μ t8' t9' w' < μ t8 t9 w) w

def troveref6_Least.j9 (i_1 : Int) (t7 : Sl) (t8 : Sl) (t9 : Int) (Q : Value → World → Prop) (w : World) : Prop :=
  troveref6_Least.l2 i_1 t7 t8 t9 Q w

def troveref6_Least.j4 (i_1 : Int) (t7 : Sl) (t8 : Sl) (Q : Value → World → Prop) (w : World) : Prop :=
  troveref6_Least.j9 i_1 t7 t8 0 Q w

def troveref6_Least.j3 (d_0 : Sl) (i_1 : Int) (t7 : Sl) (Q : Value → World → Prop) (w : World) : Prop :=
  br (decide ((((t7.len : Nat) : Int) : Int) < 2)) (
  Calls Try.prog 45 ⟨[.slice d_0.a d_0.len d_0.cap]⟩ w fun e25 w26 =>
  ∃ r27 : Int, e25 = .returned (.int .i64 r27) ∧
  Q (.tuple ⟨[.int .i64 r27, .int .i64 0]⟩) w26) (
  troveref6_Least.j4 i_1 t7 ⟨none, 0, 0⟩ Q w)

def troveref6_Least.j2 (d_0 : Sl) (i_1 : Int) (Q : Value → World → Prop) (w : World) : Prop :=
  Calls Try.prog 44 ⟨[.slice d_0.a d_0.len d_0.cap]⟩ w fun e28 w29 =>
  ∃ r30 : Sl, e28 = .returned (.slice r30.a r30.len r30.cap) ∧
  lt (IntKind.u64.wrap i_1) fun x31 =>
  (0 : Int) ≤ x31 ∧
  lt (shlV .i64 1 x31) fun x32 =>
  br (decide ((((r30.len : Nat) : Int) : Int) > x32)) (
  Q (.tuple ⟨[.int .i64 0, .int .i64 7]⟩) w29) (
  troveref6_Least.j3 d_0 i_1 r30 Q w29)

def troveref6_Least.j1 (d_0 : Sl) (i_1 : Int) (Q : Value → World → Prop) (w : World) : Prop :=
  Calls Try.prog 43 ⟨[.slice d_0.a d_0.len d_0.cap]⟩ w fun e33 w34 =>
  ∃ r35 : Int, e33 = .returned (.int .i64 r35) ∧
  br ((r35 : Int) != 0) (
  Q (.tuple ⟨[.int .i64 0, .int .i64 1]⟩) w34) (
  br (decide ((i_1 : Int) < 1)) (
  Q (.tuple ⟨[.int .i64 0, .int .i64 1]⟩) w34) (
  br (decide ((i_1 : Int) > 15)) (
  Q (.tuple ⟨[.int .i64 0, .int .i64 1]⟩) w34) (
  troveref6_Least.j2 d_0 i_1 Q w34)))

def troveref6_Least (d_0 : Sl) (i_1 : Int) (Q : Value → World → Prop) (w : World) : Prop :=
  troveref6_Least.j1 d_0 i_1 Q w

theorem troveref6_Least.ok (d_0 : Sl) (i_1 : Int) (Q : Value → World → Prop) (w : World) (h : troveref6_Least d_0 i_1 Q w) : Calls Try.prog 12 ⟨[.slice d_0.a d_0.len d_0.cap, .int .i64 i_1]⟩ w (Ret Q) := by
  refine calls_of_wpc [.tmp 4, .tmp 5] Try.func12 rfl rfl rfl rfl ?_
  refine wpc_seq (fun ρ w => asL (ρ 0) fun d_0 => asI .i64 (ρ 1) fun i_1 => troveref6_Least.j1 d_0 i_1 Q w) ?_ ?_
  · skip
    exact pt_sound hmix _ (Eq.mp (by kernel_rfl) h)
  · intro ρ w h
    obtain ⟨d_0, e0, h⟩ := asL_el h
    obtain ⟨i_1, e1, h⟩ := asI_el h
    refine reroot e0 (reroot (upd_other e1 rfl) ?_)
    refine wpc_pre2 hmix (fun ρ w => asL (ρ 0) fun d_0 => asI .i64 (ρ 1) fun i_1 => troveref6_Least.j2 d_0 i_1 Q w) (Eq.mp (by kernel_rfl) h) ?_
    intro ρ w h
    obtain ⟨d_0, e0, h⟩ := asL_el h
    obtain ⟨i_1, e1, h⟩ := asI_el h
    refine reroot e0 (reroot (upd_other e1 rfl) ?_)
    refine wpc_pre2 hmix (fun ρ w => asL (ρ 0) fun d_0 => asI .i64 (ρ 1) fun i_1 => asL (ρ 7) fun t7 => troveref6_Least.j3 d_0 i_1 t7 Q w) (Eq.mp (by kernel_rfl) h) ?_
    intro ρ w h
    obtain ⟨d_0, e0, h⟩ := asL_el h
    obtain ⟨i_1, e1, h⟩ := asI_el h
    obtain ⟨t7, e7, h⟩ := asL_el h
    refine reroot e0 (reroot (upd_other e1 rfl) (reroot (upd_other (upd_other e7 rfl) rfl) ?_))
    refine wpc_pre2 hmix (fun ρ w => asI .i64 (ρ 1) fun i_1 => asL (ρ 7) fun t7 => asL (ρ 8) fun t8 => troveref6_Least.j4 i_1 t7 t8 Q w) (Eq.mp (by kernel_rfl) h) ?_
    intro ρ w h
    obtain ⟨i_1, e1, h⟩ := asI_el h
    obtain ⟨t7, e7, h⟩ := asL_el h
    obtain ⟨t8, e8, h⟩ := asL_el h
    refine reroot e1 (reroot (upd_other e7 rfl) (reroot (upd_other (upd_other e8 rfl) rfl) ?_))
    refine wpc_seq (fun ρ w => asL (ρ 7) fun t7 => asL (ρ 8) fun t8 => troveref6_Least.j5 t7 t8 Q w) ?_ ?_
    · skip
      refine wpc_seq (fun ρ w => asI .i64 (ρ 1) fun i_1 => asL (ρ 7) fun t7 => asL (ρ 8) fun t8 => asI .i64 (ρ 9) fun t9 => troveref6_Least.j9 i_1 t7 t8 t9 Q w) ?_ ?_
      · skip
        exact pt_sound hmix _ (Eq.mp (by kernel_rfl) h)
      · intro ρ w h
        obtain ⟨i_1, e1, h⟩ := asI_el h
        obtain ⟨t7, e7, h⟩ := asL_el h
        obtain ⟨t8, e8, h⟩ := asL_el h
        obtain ⟨t9, e9, h⟩ := asI_el h
        refine reroot e1 (reroot (upd_other e7 rfl) (reroot (upd_other (upd_other e8 rfl) rfl) (reroot (upd_other (upd_other (upd_other e9 rfl) rfl) rfl) ?_)))
        refine wpc_block ?_
        obtain ⟨I, μ, hI, hr⟩ := h
        refine wpc_loopS (α := Sl × Int) (fun s ρ => ρ 8 = .slice s.1.a s.1.len s.1.cap ∧ ρ 9 = .int .i64 s.2 ∧ ρ 1 = .int .i64 i_1 ∧ ρ 7 = .slice t7.a t7.len t7.cap) (fun s w => I s.1 s.2 w) (fun s w => μ s.1 s.2 w) (t8, t9) ⟨rfl, rfl, rfl, rfl⟩ hI ?_
        rintro ⟨t8, t9⟩ ρ w ⟨e8, e9, e1, e7⟩ hI
        have h := hr t8 t9 w hI
        clear hr
        obtain ⟨nx2, hnx⟩ : ∃ nx : Int → Sl → Sl → Int → World → Prop, nx = (fun i_1' t7' t8' t9' w' => (i_1' = i_1 ∧ t7' = t7) ∧ I t8' t9' w' ∧ μ t8' t9' w' < μ t8 t9 w) := ⟨_, rfl⟩
        rw [← hnx] at h
        refine wpc_norm (M := fun ρ w => asI .i64 (ρ 1) fun i_1 => asL (ρ 7) fun t7 => asL (ρ 8) fun t8 => asI .i64 (ρ 9) fun t9 => nx2 i_1 t7 t8 t9 w) ?_ (fun ρ w h => ?_)
        · skip
          refine reroot e1 (reroot (upd_other e7 rfl) (reroot (upd_other (upd_other e8 rfl) rfl) (reroot (upd_other (upd_other (upd_other e9 rfl) rfl) rfl) ?_)))
          refine wpc_seq (fun ρ w => asI .i64 (ρ 1) fun i_1 => asL (ρ 7) fun t7 => asL (ρ 8) fun t8 => asI .i64 (ρ 9) fun t9 => troveref6_Least.j10 i_1 t7 t8 t9 Q nx2 w) ?_ ?_
          · skip
            exact pt_sound hmix _ (Eq.mp (by kernel_rfl) h)
          · intro ρ w h
            obtain ⟨i_1, e1, h⟩ := asI_el h
            obtain ⟨t7, e7, h⟩ := asL_el h
            obtain ⟨t8, e8, h⟩ := asL_el h
            obtain ⟨t9, e9, h⟩ := asI_el h
            refine reroot e1 (reroot (upd_other e7 rfl) (reroot (upd_other (upd_other e8 rfl) rfl) (reroot (upd_other (upd_other (upd_other e9 rfl) rfl) rfl) ?_)))
            refine wpc_seq (fun ρ w => asI .i64 (ρ 1) fun i_1 => asL (ρ 7) fun t7 => asL (ρ 8) fun t8 => asI .i64 (ρ 9) fun t9 => troveref6_Least.j11 i_1 t7 t8 t9 Q nx2 w) ?_ ?_
            · skip
              refine wpc_block ?_
              refine wpc_seq (fun ρ w => asI .i64 (ρ 1) fun i_1 => asL (ρ 7) fun t7 => asL (ρ 8) fun t8 => asI .i64 (ρ 9) fun t9 => asL (ρ 10) fun t10 => troveref6_Least.j12 i_1 t7 t8 t9 t10 Q nx2 w) ?_ ?_
              · skip
                exact pt_sound hmix _ (Eq.mp (by kernel_rfl) h)
              · intro ρ w h
                obtain ⟨i_1, e1, h⟩ := asI_el h
                obtain ⟨t7, e7, h⟩ := asL_el h
                obtain ⟨t8, e8, h⟩ := asL_el h
                obtain ⟨t9, e9, h⟩ := asI_el h
                obtain ⟨t10, e10, h⟩ := asL_el h
                refine reroot e1 (reroot (upd_other e7 rfl) (reroot (upd_other (upd_other e8 rfl) rfl) (reroot (upd_other (upd_other (upd_other e9 rfl) rfl) rfl) (reroot (upd_other (upd_other (upd_other (upd_other e10 rfl) rfl) rfl) rfl) ?_))))
                refine wpc_seq (fun ρ w => asI .i64 (ρ 1) fun i_1 => asL (ρ 7) fun t7 => asI .i64 (ρ 9) fun t9 => asL (ρ 10) fun t10 => troveref6_Least.j13 i_1 t7 t9 t10 Q nx2 w) ?_ ?_
                · skip
                  refine wpc_seq (fun ρ w => asI .i64 (ρ 1) fun i_1 => asL (ρ 7) fun t7 => asL (ρ 8) fun t8 => asI .i64 (ρ 9) fun t9 => asL (ρ 10) fun t10 => asI .i64 (ρ 11) fun t11 => troveref6_Least.j14 i_1 t7 t8 t9 t10 t11 Q nx2 w) ?_ ?_
                  · skip
                    exact pt_sound hmix _ (Eq.mp (by kernel_rfl) h)
                  · intro ρ w h
                    obtain ⟨i_1, e1, h⟩ := asI_el h
                    obtain ⟨t7, e7, h⟩ := asL_el h
                    obtain ⟨t8, e8, h⟩ := asL_el h
                    obtain ⟨t9, e9, h⟩ := asI_el h
                    obtain ⟨t10, e10, h⟩ := asL_el h
                    obtain ⟨t11, e11, h⟩ := asI_el h
                    refine reroot e1 (reroot (upd_other e7 rfl) (reroot (upd_other (upd_other e8 rfl) rfl) (reroot (upd_other (upd_other (upd_other e9 rfl) rfl) rfl) (reroot (upd_other (upd_other (upd_other (upd_other e10 rfl) rfl) rfl) rfl) (reroot (upd_other (upd_other (upd_other (upd_other (upd_other e11 rfl) rfl) rfl) rfl) rfl) ?_)))))
                    refine wpc_block ?_
                    obtain ⟨I, μ, hI, hr⟩ := h
                    refine wpc_loopS (α := Sl × Int) (fun s ρ => ρ 10 = .slice s.1.a s.1.len s.1.cap ∧ ρ 11 = .int .i64 s.2 ∧ ρ 1 = .int .i64 i_1 ∧ ρ 7 = .slice t7.a t7.len t7.cap ∧ ρ 8 = .slice t8.a t8.len t8.cap ∧ ρ 9 = .int .i64 t9) (fun s w => I s.1 s.2 w) (fun s w => μ s.1 s.2 w) (t10, t11) ⟨rfl, rfl, rfl, rfl, rfl, rfl⟩ hI ?_
                    rintro ⟨t10, t11⟩ ρ w ⟨e10, e11, e1, e7, e8, e9⟩ hI
                    have h := hr t10 t11 w hI
                    clear hr
                    obtain ⟨nx3, hnx⟩ : ∃ nx : Int → Sl → Sl → Int → Sl → Int → World → Prop, nx = (fun i_1' t7' t8' t9' t10' t11' w' => (i_1' = i_1 ∧ t7' = t7 ∧ t8' = t8 ∧ t9' = t9) ∧ I t10' t11' w' ∧ μ t10' t11' w' < μ t10 t11 w) := ⟨_, rfl⟩
                    rw [← hnx] at h
                    refine wpc_norm (M := fun ρ w => asI .i64 (ρ 1) fun i_1 => asL (ρ 7) fun t7 => asL (ρ 8) fun t8 => asI .i64 (ρ 9) fun t9 => asL (ρ 10) fun t10 => asI .i64 (ρ 11) fun t11 => nx3 i_1 t7 t8 t9 t10 t11 w) ?_ (fun ρ w h => ?_)
                    · skip
                      refine reroot e1 (reroot (upd_other e7 rfl) (reroot (upd_other (upd_other e8 rfl) rfl) (reroot (upd_other (upd_other (upd_other e9 rfl) rfl) rfl) (reroot (upd_other (upd_other (upd_other (upd_other e10 rfl) rfl) rfl) rfl) (reroot (upd_other (upd_other (upd_other (upd_other (upd_other e11 rfl) rfl) rfl) rfl) rfl) ?_)))))
                      exact pt_sound hmix _ (Eq.mp (by kernel_rfl) h)
                    · skip
                      obtain ⟨i_1', e1', h⟩ := asI_el h
                      obtain ⟨t7', e7', h⟩ := asL_el h
                      obtain ⟨t8', e8', h⟩ := asL_el h
                      obtain ⟨t9', e9', h⟩ := asI_el h
                      obtain ⟨t10', e10', h⟩ := asL_el h
                      obtain ⟨t11', e11', h⟩ := asI_el h
                      rw [hnx] at h
                      obtain ⟨hu, hI2, hμ⟩ := h
                      obtain ⟨rfl, rfl, rfl, rfl⟩ := hu
                      exact ⟨(t10', t11'), ⟨e10', e11', e1', e7', e8', e9'⟩, hI2, hμ⟩
                · intro ρ w h
                  obtain ⟨i_1, e1, h⟩ := asI_el h
                  obtain ⟨t7, e7, h⟩ := asL_el h
                  obtain ⟨t9, e9, h⟩ := asI_el h
                  obtain ⟨t10, e10, h⟩ := asL_el h
                  refine reroot e1 (reroot (upd_other e7 rfl) (reroot (upd_other (upd_other e9 rfl) rfl) (reroot (upd_other (upd_other (upd_other e10 rfl) rfl) rfl) ?_)))
                  exact pt_sound hmix _ (Eq.mp (by kernel_rfl) h)
            · intro ρ w h
              obtain ⟨i_1, e1, h⟩ := asI_el h
              obtain ⟨t7, e7, h⟩ := asL_el h
              obtain ⟨t8, e8, h⟩ := asL_el h
              obtain ⟨t9, e9, h⟩ := asI_el h
              refine reroot e1 (reroot (upd_other e7 rfl) (reroot (upd_other (upd_other e8 rfl) rfl) (reroot (upd_other (upd_other (upd_other e9 rfl) rfl) rfl) ?_)))
              exact pt_sound hmix _ (Eq.mp (by kernel_rfl) h)
        · skip
          obtain ⟨i_1', e1', h⟩ := asI_el h
          obtain ⟨t7', e7', h⟩ := asL_el h
          obtain ⟨t8', e8', h⟩ := asL_el h
          obtain ⟨t9', e9', h⟩ := asI_el h
          rw [hnx] at h
          obtain ⟨hu, hI2, hμ⟩ := h
          obtain ⟨rfl, rfl⟩ := hu
          exact ⟨(t8', t9'), ⟨e8', e9', e1', e7'⟩, hI2, hμ⟩
    · intro ρ w h
      obtain ⟨t7, e7, h⟩ := asL_el h
      obtain ⟨t8, e8, h⟩ := asL_el h
      refine reroot e7 (reroot (upd_other e8 rfl) ?_)
      refine wpc_seq (fun ρ w => asL (ρ 7) fun t7 => asL (ρ 8) fun t8 => asI .i64 (ρ 12) fun t12 => troveref6_Least.j6 t7 t8 t12 Q w) ?_ ?_
      · skip
        exact pt_sound hmix _ (Eq.mp (by kernel_rfl) h)
      · intro ρ w h
        obtain ⟨t7, e7, h⟩ := asL_el h
        obtain ⟨t8, e8, h⟩ := asL_el h
        obtain ⟨t12, e12, h⟩ := asI_el h
        refine reroot e7 (reroot (upd_other e8 rfl) (reroot (upd_other (upd_other e12 rfl) rfl) ?_))
        refine wpc_seq (fun ρ w => asI .i64 (ρ 12) fun t12 => troveref6_Least.j7 t12 Q w) ?_ ?_
        · skip
          refine wpc_seq (fun ρ w => asL (ρ 7) fun t7 => asL (ρ 8) fun t8 => asI .i64 (ρ 12) fun t12 => asI .i64 (ρ 13) fun t13 => troveref6_Least.j8 t7 t8 t12 t13 Q w) ?_ ?_
          · skip
            exact pt_sound hmix _ (Eq.mp (by kernel_rfl) h)
          · intro ρ w h
            obtain ⟨t7, e7, h⟩ := asL_el h
            obtain ⟨t8, e8, h⟩ := asL_el h
            obtain ⟨t12, e12, h⟩ := asI_el h
            obtain ⟨t13, e13, h⟩ := asI_el h
            refine reroot e7 (reroot (upd_other e8 rfl) (reroot (upd_other (upd_other e12 rfl) rfl) (reroot (upd_other (upd_other (upd_other e13 rfl) rfl) rfl) ?_)))
            refine wpc_block ?_
            obtain ⟨I, μ, hI, hr⟩ := h
            refine wpc_loopS (α := Int × Int) (fun s ρ => ρ 12 = .int .i64 s.1 ∧ ρ 13 = .int .i64 s.2 ∧ ρ 7 = .slice t7.a t7.len t7.cap ∧ ρ 8 = .slice t8.a t8.len t8.cap) (fun s w => I s.1 s.2 w) (fun s w => μ s.1 s.2 w) (t12, t13) ⟨rfl, rfl, rfl, rfl⟩ hI ?_
            rintro ⟨t12, t13⟩ ρ w ⟨e12, e13, e7, e8⟩ hI
            have h := hr t12 t13 w hI
            clear hr
            obtain ⟨nx1, hnx⟩ : ∃ nx : Sl → Sl → Int → Int → World → Prop, nx = (fun t7' t8' t12' t13' w' => (t7' = t7 ∧ t8' = t8) ∧ I t12' t13' w' ∧ μ t12' t13' w' < μ t12 t13 w) := ⟨_, rfl⟩
            rw [← hnx] at h
            refine wpc_norm (M := fun ρ w => asL (ρ 7) fun t7 => asL (ρ 8) fun t8 => asI .i64 (ρ 12) fun t12 => asI .i64 (ρ 13) fun t13 => nx1 t7 t8 t12 t13 w) ?_ (fun ρ w h => ?_)
            · skip
              refine reroot e7 (reroot (upd_other e8 rfl) (reroot (upd_other (upd_other e12 rfl) rfl) (reroot (upd_other (upd_other (upd_other e13 rfl) rfl) rfl) ?_)))
              exact pt_sound hmix _ (Eq.mp (by kernel_rfl) h)
            · skip
              obtain ⟨t7', e7', h⟩ := asL_el h
              obtain ⟨t8', e8', h⟩ := asL_el h
              obtain ⟨t12', e12', h⟩ := asI_el h
              obtain ⟨t13', e13', h⟩ := asI_el h
              rw [hnx] at h
              obtain ⟨hu, hI2, hμ⟩ := h
              obtain ⟨rfl, rfl⟩ := hu
              exact ⟨(t12', t13'), ⟨e12', e13', e7', e8'⟩, hI2, hμ⟩
        · intro ρ w h
          obtain ⟨t12, e12, h⟩ := asI_el h
          refine reroot e12 ?_
          exact pt_sound hmix _ (Eq.mp (by kernel_rfl) h)

end Go.Proofs.Ythdmmmfgjmmelaa
