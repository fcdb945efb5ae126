/- PRINTED BY gen.py (own work): what calls come to, and the proofs of it. -/
import Derived.Test.YthdmmmfgjmmelaaVcJ
import Derived.Test.YthdmmmfgjmmelaaProg
namespace Go.Proofs.Ythdmmmfgjmmelaa
open Go Go.Proofs
set_option linter.unusedVariables false
set_option maxRecDepth 100000

/-! trove/limit.bad$1 -/
def limit_bad_1 (n_0 : Int) (Q : Value → World → Prop) (w : World) : Prop :=
  br (decide ((n_0 : Int) < 0)) (
  Q (.bool true) w) (
  Q (.bool (decide ((n_0 : Int) > 16777216))) w)

theorem limit_bad_1.ok (n_0 : Int) (Q : Value → World → Prop) (w : World) (h : limit_bad_1 n_0 Q w) : Calls Try.prog 87 ⟨[.int .i64 n_0]⟩ w (Ret Q) := by
  refine calls_of_wpc [.tmp 2] Try.func87 rfl rfl rfl rfl ?_
  exact pt_sound hmix _ (Eq.mp (by kernel_rfl) h)

/-! slices.IndexFunc[[]int,int] -/
def slices_IndexFunc_int.j2  (Q : Value → World → Prop) (w : World) : Prop :=
  Q (.int .i64 (-1)) w

def slices_IndexFunc_int.b1 (s_0 : Sl) (t7 : Int) (t8 : Int) (Q : Value → World → Prop) (nx1 : Sl → Int → Int → World → Prop) (w : World) : Prop :=
  br (decide ((t8 : Int) < t7)) (
  ixS s_0.a s_0.len t8 1 fun a1 =>
  ldI .i64 w a1 fun x2 =>
  Calls Try.prog 87 ⟨[.int .i64 x2]⟩ w fun e3 w4 =>
  ∃ r5 : Bool, e3 = .returned (.bool r5) ∧
  br r5 (
  Q (.int .i64 t8) w4) (
  lt (IntKind.i64.wrap (t8 + 1)) fun x6 =>
  nx1 s_0 t7 x6 w4)) (
  slices_IndexFunc_int.j2 Q w)

def slices_IndexFunc_int.l1 (s_0 : Sl) (t7 : Int) (t8 : Int) (Q : Value → World → Prop) (w : World) : Prop :=
  ∃ (I : Int → World → Prop) (μ : Int → World → Nat), I t8 w ∧ ∀ t8 : Int, ∀ w : World, I t8 w → slices_IndexFunc_int.b1 s_0 t7 t8 Q (fun s_0' t7' t8' w' => (s_0' = s_0 ∧ t7' = t7) ∧ I t8' w' ∧ μ t8' w' < μ t8 w) w

def slices_IndexFunc_int.j3 (s_0 : Sl) (t7 : Int) (t8 : Int) (Q : Value → World → Prop) (w : World) : Prop :=
  slices_IndexFunc_int.l1 s_0 t7 t8 Q w

def slices_IndexFunc_int.j1 (s_0 : Sl) (Q : Value → World → Prop) (w : World) : Prop :=
  slices_IndexFunc_int.j3 s_0 ((s_0.len : Nat) : Int) 0 Q w

def slices_IndexFunc_int (s_0 : Sl) (Q : Value → World → Prop) (w : World) : Prop :=
  slices_IndexFunc_int.j1 s_0 Q w

theorem slices_IndexFunc_int.ok (s_0 : Sl) (Q : Value → World → Prop) (w : World) (h : slices_IndexFunc_int s_0 Q w) : Calls Try.prog 133 ⟨[.slice s_0.a s_0.len s_0.cap, .func (.func 87) ⟨[]⟩ ⟨[]⟩]⟩ w (Ret Q) := by
  refine calls_of_wpc [.tmp 4] Try.func133 rfl rfl rfl rfl ?_
  refine wpc_seq (fun ρ w => asL (ρ 0) fun s_0 => asC0 87 (ρ 1) <| slices_IndexFunc_int.j1 s_0 Q w) ?_ ?_
  · skip
    exact pt_sound hmix _ (Eq.mp (by kernel_rfl) h)
  · intro ρ w h
    obtain ⟨s_0, e0, h⟩ := asL_el h
    obtain ⟨e1, h⟩ := asC0_el h
    refine reroot e0 (reroot (upd_other e1 rfl) ?_)
    refine wpc_seq (fun ρ w =>  slices_IndexFunc_int.j2  Q w) ?_ ?_
    · skip
      refine wpc_seq (fun ρ w => asL (ρ 0) fun s_0 => asC0 87 (ρ 1) <| asI .i64 (ρ 7) fun t7 => asI .i64 (ρ 8) fun t8 => slices_IndexFunc_int.j3 s_0 t7 t8 Q w) ?_ ?_
      · skip
        exact pt_sound hmix _ (Eq.mp (by kernel_rfl) h)
      · intro ρ w h
        obtain ⟨s_0, e0, h⟩ := asL_el h
        obtain ⟨e1, h⟩ := asC0_el h
        obtain ⟨t7, e7, h⟩ := asI_el h
        obtain ⟨t8, e8, h⟩ := asI_el h
        refine reroot e0 (reroot (upd_other e1 rfl) (reroot (upd_other (upd_other e7 rfl) rfl) (reroot (upd_other (upd_other (upd_other e8 rfl) rfl) rfl) ?_)))
        refine wpc_block ?_
        obtain ⟨I, μ, hI, hr⟩ := h
        refine wpc_loopS (α := Int) (fun s ρ => ρ 8 = .int .i64 s ∧ ρ 0 = .slice s_0.a s_0.len s_0.cap ∧ ρ 1 = .func (.func 87) ⟨[]⟩ ⟨[]⟩ ∧ ρ 7 = .int .i64 t7) (fun s w => I s w) (fun s w => μ s w) t8 ⟨rfl, rfl, rfl, rfl⟩ hI ?_
        rintro t8 ρ w ⟨e8, e0, e1, e7⟩ hI
        have h := hr t8 w hI
        clear hr
        obtain ⟨nx1, hnx⟩ : ∃ nx : Sl → Int → Int → World → Prop, nx = (fun s_0' t7' t8' w' => (s_0' = s_0 ∧ t7' = t7) ∧ I t8' w' ∧ μ t8' w' < μ t8 w) := ⟨_, rfl⟩
        rw [← hnx] at h
        refine wpc_norm (M := fun ρ w => asL (ρ 0) fun s_0 => asC0 87 (ρ 1) <| asI .i64 (ρ 7) fun t7 => asI .i64 (ρ 8) fun t8 => nx1 s_0 t7 t8 w) ?_ (fun ρ w h => ?_)
        · skip
          refine reroot e0 (reroot (upd_other e1 rfl) (reroot (upd_other (upd_other e7 rfl) rfl) (reroot (upd_other (upd_other (upd_other e8 rfl) rfl) rfl) ?_)))
          exact pt_sound hmix _ (Eq.mp (by kernel_rfl) h)
        · skip
          obtain ⟨s_0', e0', h⟩ := asL_el h
          obtain ⟨e1', h⟩ := asC0_el h
          obtain ⟨t7', e7', h⟩ := asI_el h
          obtain ⟨t8', e8', h⟩ := asI_el h
          rw [hnx] at h
          obtain ⟨hu, hI2, hμ⟩ := h
          obtain ⟨rfl, rfl⟩ := hu
          exact ⟨t8', ⟨e8', e0', e1', e7'⟩, hI2, hμ⟩
    · intro ρ w h
      exact pt_sound hmix _ (Eq.mp (by kernel_rfl) h)

/-! slices.ContainsFunc[[]int,int] -/
def slices_ContainsFunc_int (s_0 : Sl) (Q : Value → World → Prop) (w : World) : Prop :=
  Calls Try.prog 133 ⟨[.slice s_0.a s_0.len s_0.cap, .func (.func 87) ⟨[]⟩ ⟨[]⟩]⟩ w fun e1 w2 =>
  ∃ r3 : Int, e1 = .returned (.int .i64 r3) ∧
  Q (.bool (decide ((r3 : Int) ≥ 0))) w2

theorem slices_ContainsFunc_int.ok (s_0 : Sl) (Q : Value → World → Prop) (w : World) (h : slices_ContainsFunc_int s_0 Q w) : Calls Try.prog 86 ⟨[.slice s_0.a s_0.len s_0.cap, .func (.func 87) ⟨[]⟩ ⟨[]⟩]⟩ w (Ret Q) := by
  refine calls_of_wpc [.tmp 4] Try.func86 rfl rfl rfl rfl ?_
  exact pt_sound hmix _ (Eq.mp (by kernel_rfl) h)

/-! trove/limit.bad -/
def limit_bad (counts_0 : Sl) (Q : Value → World → Prop) (w : World) : Prop :=
  br (decide ((((counts_0.len : Nat) : Int) : Int) > 288)) (
  Q (.bool true) w) (
  Calls Try.prog 86 ⟨[.slice counts_0.a counts_0.len counts_0.cap, .func (.func 87) ⟨[]⟩ ⟨[]⟩]⟩ w fun e1 w2 =>
  ∃ r3 : Bool, e1 = .returned (.bool r3) ∧
  Q (.bool r3) w2)

theorem limit_bad.ok (counts_0 : Sl) (Q : Value → World → Prop) (w : World) (h : limit_bad counts_0 Q w) : Calls Try.prog 36 ⟨[.slice counts_0.a counts_0.len counts_0.cap]⟩ w (Ret Q) := by
  refine calls_of_wpc [.tmp 2] Try.func36 rfl rfl rfl rfl ?_
  exact pt_sound hmix _ (Eq.mp (by kernel_rfl) h)

/-! trove/limit.come -/
def limit_come.j2 (out_3 : Sl) (Q : Value → World → Prop) (w : World) : Prop :=
  Q (.slice out_3.a out_3.len out_3.cap) w

def limit_come.b1 (t6 : Sl) (t7 : Int) (out_3 : Sl) (t8 : Int) (Q : Value → World → Prop) (nx1 : Sl → Int → Sl → Int → World → Prop) (w : World) : Prop :=
  br (decide ((t8 : Int) < t7)) (
  ixS t6.a t6.len t8 1 fun a1 =>
  ldI .i64 w a1 fun x2 =>
  br (decide ((x2 : Int) > 0)) (
  lt (⟨World.heapSize w, 0, none⟩ : Addr) fun a3 =>
  lt (World.alloc w (.cells ⟨[.int .i64 t8]⟩ 3)) fun w4 =>
  rdO w4 (some a3) (1 * 1) fun c5 =>
  apK Try.prog 3 w4 out_3.a out_3.len out_3.cap 1 c5 fun s6 w7 =>
  lt (IntKind.i64.wrap (t8 + 1)) fun x8 =>
  nx1 t6 t7 s6 x8 w7) (
  lt (IntKind.i64.wrap (t8 + 1)) fun x9 =>
  nx1 t6 t7 out_3 x9 w)) (
  limit_come.j2 out_3 Q w)

def limit_come.l1 (t6 : Sl) (t7 : Int) (out_3 : Sl) (t8 : Int) (Q : Value → World → Prop) (w : World) : Prop :=
  ∃ (I : Sl → Int → World → Prop) (μ : Sl → Int → World → Nat), I out_3 t8 w ∧ ∀ out_3 : Sl, ∀ t8 : Int, ∀ w : World, I out_3 t8 w → limit_come.b1 t6 t7 out_3 t8 Q (fun t6' t7' out_3' t8' w' => (t6' = t6 ∧ t7' = t7) ∧ I out_3' t8' w' ∧ μ out_3' t8' w' < μ out_3 t8 w) w

def limit_come.j3 (out_3 : Sl) (t6 : Sl) (t7 : Int) (t8 : Int) (Q : Value → World → Prop) (w : World) : Prop :=
  limit_come.l1 t6 t7 out_3 t8 Q w

def limit_come.j1 (counts_0 : Sl) (out_3 : Sl) (Q : Value → World → Prop) (w : World) : Prop :=
  limit_come.j3 out_3 counts_0 ((counts_0.len : Nat) : Int) 0 Q w

def limit_come (counts_0 : Sl) (Q : Value → World → Prop) (w : World) : Prop :=
  limit_come.j1 counts_0 ⟨none, 0, 0⟩ Q w

theorem limit_come.ok (counts_0 : Sl) (Q : Value → World → Prop) (w : World) (h : limit_come counts_0 Q w) : Calls Try.prog 37 ⟨[.slice counts_0.a counts_0.len counts_0.cap]⟩ w (Ret Q) := by
  refine calls_of_wpc [.tmp 2] Try.func37 rfl rfl rfl rfl ?_
  refine wpc_pre2 hmix (fun ρ w => asL (ρ 0) fun counts_0 => asL (ρ 3) fun out_3 => limit_come.j1 counts_0 out_3 Q w) (Eq.mp (by kernel_rfl) h) ?_
  intro ρ w h
  obtain ⟨counts_0, e0, h⟩ := asL_el h
  obtain ⟨out_3, e3, h⟩ := asL_el h
  refine reroot e0 (reroot (upd_other e3 rfl) ?_)
  refine wpc_seq (fun ρ w => asL (ρ 3) fun out_3 => limit_come.j2 out_3 Q w) ?_ ?_
  · skip
    refine wpc_seq (fun ρ w => asL (ρ 3) fun out_3 => asL (ρ 6) fun t6 => asI .i64 (ρ 7) fun t7 => asI .i64 (ρ 8) fun t8 => limit_come.j3 out_3 t6 t7 t8 Q w) ?_ ?_
    · skip
      exact pt_sound hmix _ (Eq.mp (by kernel_rfl) h)
    · intro ρ w h
      obtain ⟨out_3, e3, h⟩ := asL_el h
      obtain ⟨t6, e6, h⟩ := asL_el h
      obtain ⟨t7, e7, h⟩ := asI_el h
      obtain ⟨t8, e8, h⟩ := asI_el h
      refine reroot e3 (reroot (upd_other e6 rfl) (reroot (upd_other (upd_other e7 rfl) rfl) (reroot (upd_other (upd_other (upd_other e8 rfl) rfl) rfl) ?_)))
      refine wpc_block ?_
      obtain ⟨I, μ, hI, hr⟩ := h
      refine wpc_loopS (α := Sl × Int) (fun s ρ => ρ 3 = .slice s.1.a s.1.len s.1.cap ∧ ρ 8 = .int .i64 s.2 ∧ ρ 6 = .slice t6.a t6.len t6.cap ∧ ρ 7 = .int .i64 t7) (fun s w => I s.1 s.2 w) (fun s w => μ s.1 s.2 w) (out_3, t8) ⟨rfl, rfl, rfl, rfl⟩ hI ?_
      rintro ⟨out_3, t8⟩ ρ w ⟨e3, e8, e6, e7⟩ hI
      have h := hr out_3 t8 w hI
      clear hr
      obtain ⟨nx1, hnx⟩ : ∃ nx : Sl → Int → Sl → Int → World → Prop, nx = (fun t6' t7' out_3' t8' w' => (t6' = t6 ∧ t7' = t7) ∧ I out_3' t8' w' ∧ μ out_3' t8' w' < μ out_3 t8 w) := ⟨_, rfl⟩
      rw [← hnx] at h
      refine wpc_norm (M := fun ρ w => asL (ρ 6) fun t6 => asI .i64 (ρ 7) fun t7 => asL (ρ 3) fun out_3 => asI .i64 (ρ 8) fun t8 => nx1 t6 t7 out_3 t8 w) ?_ (fun ρ w h => ?_)
      · skip
        refine reroot e3 (reroot (upd_other e6 rfl) (reroot (upd_other (upd_other e7 rfl) rfl) (reroot (upd_other (upd_other (upd_other e8 rfl) rfl) rfl) ?_)))
        exact pt_sound hmix _ (Eq.mp (by kernel_rfl) h)
      · skip
        obtain ⟨t6', e6', h⟩ := asL_el h
        obtain ⟨t7', e7', h⟩ := asI_el h
        obtain ⟨out_3', e3', h⟩ := asL_el h
        obtain ⟨t8', e8', h⟩ := asI_el h
        rw [hnx] at h
        obtain ⟨hu, hI2, hμ⟩ := h
        obtain ⟨rfl, rfl⟩ := hu
        exact ⟨(out_3', t8'), ⟨e3', e8', e6', e7'⟩, hI2, hμ⟩
  · intro ρ w h
    obtain ⟨out_3, e3, h⟩ := asL_el h
    refine reroot e3 ?_
    exact pt_sound hmix _ (Eq.mp (by kernel_rfl) h)

/-! slices.Grow[[]int,int] -/
def slices_Grow_int (s_0 : Sl) (n_1 : Int) (Q : Value → World → Prop) (w : World) : Prop :=
  br (decide ((n_1 : Int) < 0)) (
  False) (
  lt (IntKind.i64.wrap (((s_0.cap : Nat) : Int) - ((s_0.len : Nat) : Int))) fun x1 =>
  lt (IntKind.i64.wrap (n_1 - x1)) fun x2 =>
  br (decide ((x2 : Int) > 0)) (
  bd ((s_0.cap : Nat) : Int) s_0.cap fun n3 =>
  lt (⟨cutA s_0.a s_0.cap 0 1, n3 - 0, s_0.cap - 0⟩ : Sl) fun s4 =>
  zrK Try.prog 3 s4.len x2 fun c5 =>
  apK Try.prog 3 w s4.a s4.len s4.cap (Int.toNat x2) c5 fun s6 w7 =>
  bd ((s_0.len : Nat) : Int) s6.cap fun n8 =>
  lt (⟨cutA s6.a s6.cap 0 1, n8 - 0, s6.cap - 0⟩ : Sl) fun s9 =>
  Q (.slice s9.a s9.len s9.cap) w7) (
  Q (.slice s_0.a s_0.len s_0.cap) w))

theorem slices_Grow_int.ok (s_0 : Sl) (n_1 : Int) (Q : Value → World → Prop) (w : World) (h : slices_Grow_int s_0 n_1 Q w) : Calls Try.prog 134 ⟨[.slice s_0.a s_0.len s_0.cap, .int .i64 n_1]⟩ w (Ret Q) := by
  refine calls_of_wpc [.tmp 4] Try.func134 rfl rfl rfl rfl ?_
  exact pt_sound hmix _ (Eq.mp (by kernel_rfl) h)

/-! slices.Concat[[]int,int] -/
def slices_Concat_int.j4 (newslice_6 : Sl) (Q : Value → World → Prop) (w : World) : Prop :=
  Q (.slice newslice_6.a newslice_6.len newslice_6.cap) w

def slices_Concat_int.b1 (t25 : Sl) (t26 : Int) (newslice_6 : Sl) (t27 : Int) (Q : Value → World → Prop) (nx1 : Sl → Int → Sl → Int → World → Prop) (w : World) : Prop :=
  br (decide ((t27 : Int) < t26)) (
  ixS t25.a t25.len t27 1 fun a1 =>
  ldL w a1 fun x2 =>
  rdO w x2.a (x2.len * 1) fun c3 =>
  apK Try.prog 3 w newslice_6.a newslice_6.len newslice_6.cap x2.len c3 fun s4 w5 =>
  lt (IntKind.i64.wrap (t27 + 1)) fun x6 =>
  nx1 t25 t26 s4 x6 w5) (
  slices_Concat_int.j4 newslice_6 Q w)

def slices_Concat_int.l1 (t25 : Sl) (t26 : Int) (newslice_6 : Sl) (t27 : Int) (Q : Value → World → Prop) (w : World) : Prop :=
  ∃ (I : Sl → Int → World → Prop) (μ : Sl → Int → World → Nat), I newslice_6 t27 w ∧ ∀ newslice_6 : Sl, ∀ t27 : Int, ∀ w : World, I newslice_6 t27 w → slices_Concat_int.b1 t25 t26 newslice_6 t27 Q (fun t25' t26' newslice_6' t27' w' => (t25' = t25 ∧ t26' = t26) ∧ I newslice_6' t27' w' ∧ μ newslice_6' t27' w' < μ newslice_6 t27 w) w

def slices_Concat_int.j5 (newslice_6 : Sl) (t25 : Sl) (t26 : Int) (t27 : Int) (Q : Value → World → Prop) (w : World) : Prop :=
  slices_Concat_int.l1 t25 t26 newslice_6 t27 Q w

def slices_Concat_int.j3 (slices_0 : Sl) (newslice_6 : Sl) (Q : Value → World → Prop) (w : World) : Prop :=
  slices_Concat_int.j5 newslice_6 slices_0 ((slices_0.len : Nat) : Int) 0 Q w

def slices_Concat_int.j2 (slices_0 : Sl) (size_3 : Int) (Q : Value → World → Prop) (w : World) : Prop :=
  Calls Try.prog 134 ⟨[.slice none 0 0, .int .i64 size_3]⟩ w fun e7 w8 =>
  ∃ r9 : Sl, e7 = .returned (.slice r9.a r9.len r9.cap) ∧
  slices_Concat_int.j3 slices_0 r9 Q w8

def slices_Concat_int.b2 (slices_0 : Sl) (t9 : Sl) (t10 : Int) (size_3 : Int) (t11 : Int) (Q : Value → World → Prop) (nx2 : Sl → Sl → Int → Int → Int → World → Prop) (w : World) : Prop :=
  br (decide ((t11 : Int) < t10)) (
  ixS t9.a t9.len t11 1 fun a10 =>
  ldL w a10 fun x11 =>
  lt (IntKind.i64.wrap (size_3 + ((x11.len : Nat) : Int))) fun x12 =>
  br (decide ((x12 : Int) < 0)) (
  False) (
  lt (IntKind.i64.wrap (t11 + 1)) fun x13 =>
  nx2 slices_0 t9 t10 x12 x13 w)) (
  slices_Concat_int.j2 slices_0 size_3 Q w)

def slices_Concat_int.l2 (slices_0 : Sl) (t9 : Sl) (t10 : Int) (size_3 : Int) (t11 : Int) (Q : Value → World → Prop) (w : World) : Prop :=
  ∃ (I : Int → Int → World → Prop) (μ : Int → Int → World → Nat), I size_3 t11 w ∧ ∀ size_3 : Int, ∀ t11 : Int, ∀ w : World, I size_3 t11 w → slices_Concat_int.b2 slices_0 t9 t10 size_3 t11 Q (fun slices_0' t9' t10' size_3' t11' w' => (slices_0' = slices_0 ∧ t9' = t9 ∧ t10' = t10) ∧ I size_3' t11' w' ∧ μ size_3' t11' w' < μ size_3 t11 w) w

def slices_Concat_int.j6 (slices_0 : Sl) (size_3 : Int) (t9 : Sl) (t10 : Int) (t11 : Int) (Q : Value → World → Prop) (w : World) : Prop :=
  slices_Concat_int.l2 slices_0 t9 t10 size_3 t11 Q w

def slices_Concat_int.j1 (slices_0 : Sl) (size_3 : Int) (Q : Value → World → Prop) (w : World) : Prop :=
  slices_Concat_int.j6 slices_0 size_3 slices_0 ((slices_0.len : Nat) : Int) 0 Q w

def slices_Concat_int (slices_0 : Sl) (Q : Value → World → Prop) (w : World) : Prop :=
  slices_Concat_int.j1 slices_0 0 Q w

theorem slices_Concat_int.ok (slices_0 : Sl) (Q : Value → World → Prop) (w : World) (h : slices_Concat_int slices_0 Q w) : Calls Try.prog 88 ⟨[.slice slices_0.a slices_0.len slices_0.cap]⟩ w (Ret Q) := by
  refine calls_of_wpc [.tmp 2] Try.func88 rfl rfl rfl rfl ?_
  refine wpc_pre2 hmix (fun ρ w => asL (ρ 0) fun slices_0 => asI .i64 (ρ 3) fun size_3 => slices_Concat_int.j1 slices_0 size_3 Q w) (Eq.mp (by kernel_rfl) h) ?_
  intro ρ w h
  obtain ⟨slices_0, e0, h⟩ := asL_el h
  obtain ⟨size_3, e3, h⟩ := asI_el h
  refine reroot e0 (reroot (upd_other e3 rfl) ?_)
  refine wpc_seq (fun ρ w => asL (ρ 0) fun slices_0 => asI .i64 (ρ 3) fun size_3 => slices_Concat_int.j2 slices_0 size_3 Q w) ?_ ?_
  · skip
    refine wpc_seq (fun ρ w => asL (ρ 0) fun slices_0 => asI .i64 (ρ 3) fun size_3 => asL (ρ 9) fun t9 => asI .i64 (ρ 10) fun t10 => asI .i64 (ρ 11) fun t11 => slices_Concat_int.j6 slices_0 size_3 t9 t10 t11 Q w) ?_ ?_
    · skip
      exact pt_sound hmix _ (Eq.mp (by kernel_rfl) h)
    · intro ρ w h
      obtain ⟨slices_0, e0, h⟩ := asL_el h
      obtain ⟨size_3, e3, h⟩ := asI_el h
      obtain ⟨t9, e9, h⟩ := asL_el h
      obtain ⟨t10, e10, h⟩ := asI_el h
      obtain ⟨t11, e11, h⟩ := asI_el h
      refine reroot e0 (reroot (upd_other e3 rfl) (reroot (upd_other (upd_other e9 rfl) rfl) (reroot (upd_other (upd_other (upd_other e10 rfl) rfl) rfl) (reroot (upd_other (upd_other (upd_other (upd_other e11 rfl) rfl) rfl) rfl) ?_))))
      refine wpc_block ?_
      obtain ⟨I, μ, hI, hr⟩ := h
      refine wpc_loopS (α := Int × Int) (fun s ρ => ρ 3 = .int .i64 s.1 ∧ ρ 11 = .int .i64 s.2 ∧ ρ 0 = .slice slices_0.a slices_0.len slices_0.cap ∧ ρ 9 = .slice t9.a t9.len t9.cap ∧ ρ 10 = .int .i64 t10) (fun s w => I s.1 s.2 w) (fun s w => μ s.1 s.2 w) (size_3, t11) ⟨rfl, rfl, rfl, rfl, rfl⟩ hI ?_
      rintro ⟨size_3, t11⟩ ρ w ⟨e3, e11, e0, e9, e10⟩ hI
      have h := hr size_3 t11 w hI
      clear hr
      obtain ⟨nx2, hnx⟩ : ∃ nx : Sl → Sl → Int → Int → Int → World → Prop, nx = (fun slices_0' t9' t10' size_3' t11' w' => (slices_0' = slices_0 ∧ t9' = t9 ∧ t10' = t10) ∧ I size_3' t11' w' ∧ μ size_3' t11' w' < μ size_3 t11 w) := ⟨_, rfl⟩
      rw [← hnx] at h
      refine wpc_norm (M := fun ρ w => asL (ρ 0) fun slices_0 => asL (ρ 9) fun t9 => asI .i64 (ρ 10) fun t10 => asI .i64 (ρ 3) fun size_3 => asI .i64 (ρ 11) fun t11 => nx2 slices_0 t9 t10 size_3 t11 w) ?_ (fun ρ w h => ?_)
      · skip
        refine reroot e0 (reroot (upd_other e3 rfl) (reroot (upd_other (upd_other e9 rfl) rfl) (reroot (upd_other (upd_other (upd_other e10 rfl) rfl) rfl) (reroot (upd_other (upd_other (upd_other (upd_other e11 rfl) rfl) rfl) rfl) ?_))))
        exact pt_sound hmix _ (Eq.mp (by kernel_rfl) h)
      · skip
        obtain ⟨slices_0', e0', h⟩ := asL_el h
        obtain ⟨t9', e9', h⟩ := asL_el h
        obtain ⟨t10', e10', h⟩ := asI_el h
        obtain ⟨size_3', e3', h⟩ := asI_el h
        obtain ⟨t11', e11', h⟩ := asI_el h
        rw [hnx] at h
        obtain ⟨hu, hI2, hμ⟩ := h
        obtain ⟨rfl, rfl, rfl⟩ := hu
        exact ⟨(size_3', t11'), ⟨e3', e11', e0', e9', e10'⟩, hI2, hμ⟩
  · intro ρ w h
    obtain ⟨slices_0, e0, h⟩ := asL_el h
    obtain ⟨size_3, e3, h⟩ := asI_el h
    refine reroot e0 (reroot (upd_other e3 rfl) ?_)
    refine wpc_seq (fun ρ w => asL (ρ 0) fun slices_0 => asL (ρ 6) fun newslice_6 => slices_Concat_int.j3 slices_0 newslice_6 Q w) ?_ ?_
    · skip
      exact pt_sound hmix _ (Eq.mp (by kernel_rfl) h)
    · intro ρ w h
      obtain ⟨slices_0, e0, h⟩ := asL_el h
      obtain ⟨newslice_6, e6, h⟩ := asL_el h
      refine reroot e0 (reroot (upd_other e6 rfl) ?_)
      refine wpc_seq (fun ρ w => asL (ρ 6) fun newslice_6 => slices_Concat_int.j4 newslice_6 Q w) ?_ ?_
      · skip
        refine wpc_seq (fun ρ w => asL (ρ 6) fun newslice_6 => asL (ρ 25) fun t25 => asI .i64 (ρ 26) fun t26 => asI .i64 (ρ 27) fun t27 => slices_Concat_int.j5 newslice_6 t25 t26 t27 Q w) ?_ ?_
        · skip
          exact pt_sound hmix _ (Eq.mp (by kernel_rfl) h)
        · intro ρ w h
          obtain ⟨newslice_6, e6, h⟩ := asL_el h
          obtain ⟨t25, e25, h⟩ := asL_el h
          obtain ⟨t26, e26, h⟩ := asI_el h
          obtain ⟨t27, e27, h⟩ := asI_el h
          refine reroot e6 (reroot (upd_other e25 rfl) (reroot (upd_other (upd_other e26 rfl) rfl) (reroot (upd_other (upd_other (upd_other e27 rfl) rfl) rfl) ?_)))
          refine wpc_block ?_
          obtain ⟨I, μ, hI, hr⟩ := h
          refine wpc_loopS (α := Sl × Int) (fun s ρ => ρ 6 = .slice s.1.a s.1.len s.1.cap ∧ ρ 27 = .int .i64 s.2 ∧ ρ 25 = .slice t25.a t25.len t25.cap ∧ ρ 26 = .int .i64 t26) (fun s w => I s.1 s.2 w) (fun s w => μ s.1 s.2 w) (newslice_6, t27) ⟨rfl, rfl, rfl, rfl⟩ hI ?_
          rintro ⟨newslice_6, t27⟩ ρ w ⟨e6, e27, e25, e26⟩ hI
          have h := hr newslice_6 t27 w hI
          clear hr
          obtain ⟨nx1, hnx⟩ : ∃ nx : Sl → Int → Sl → Int → World → Prop, nx = (fun t25' t26' newslice_6' t27' w' => (t25' = t25 ∧ t26' = t26) ∧ I newslice_6' t27' w' ∧ μ newslice_6' t27' w' < μ newslice_6 t27 w) := ⟨_, rfl⟩
          rw [← hnx] at h
          refine wpc_norm (M := fun ρ w => asL (ρ 25) fun t25 => asI .i64 (ρ 26) fun t26 => asL (ρ 6) fun newslice_6 => asI .i64 (ρ 27) fun t27 => nx1 t25 t26 newslice_6 t27 w) ?_ (fun ρ w h => ?_)
          · skip
            refine reroot e6 (reroot (upd_other e25 rfl) (reroot (upd_other (upd_other e26 rfl) rfl) (reroot (upd_other (upd_other (upd_other e27 rfl) rfl) rfl) ?_)))
            exact pt_sound hmix _ (Eq.mp (by kernel_rfl) h)
          · skip
            obtain ⟨t25', e25', h⟩ := asL_el h
            obtain ⟨t26', e26', h⟩ := asI_el h
            obtain ⟨newslice_6', e6', h⟩ := asL_el h
            obtain ⟨t27', e27', h⟩ := asI_el h
            rw [hnx] at h
            obtain ⟨hu, hI2, hμ⟩ := h
            obtain ⟨rfl, rfl⟩ := hu
            exact ⟨(newslice_6', t27'), ⟨e6', e27', e25', e26'⟩, hI2, hμ⟩
      · intro ρ w h
        obtain ⟨newslice_6, e6, h⟩ := asL_el h
        refine reroot e6 ?_
        exact pt_sound hmix _ (Eq.mp (by kernel_rfl) h)

/-! trove/limit.pairs -/
def limit_pairs.j2 (out_3 : Sl) (Q : Value → World → Prop) (w : World) : Prop :=
  Q (.slice out_3.a out_3.len out_3.cap) w

def limit_pairs.b1 (l_0 : Sl) (out_3 : Sl) (i_4 : Int) (Q : Value → World → Prop) (nx1 : Sl → Sl → Int → World → Prop) (w : World) : Prop :=
  br (decide ((i_4 : Int) < ((l_0.len : Nat) : Int))) (
  lt (World.drew w) fun w1 =>
  lt (IntKind.i64.wrap (i_4 - 1)) fun x2 =>
  ixS l_0.a l_0.len x2 2 fun a3 =>
  ixS l_0.a l_0.len i_4 2 fun a4 =>
  lt (IntKind.i64.wrap (i_4 - 1)) fun x5 =>
  ixS l_0.a l_0.len x5 2 fun a6 =>
  ldL w1 (Addr.add a6 1) fun x7 =>
  ixS l_0.a l_0.len i_4 2 fun a8 =>
  ldL w1 (Addr.add a8 1) fun x9 =>
  (ldI .i64 w1 (Addr.add a3 0) fun x10 =>
  (ldI .i64 w1 (Addr.add a4 0) fun x11 =>
  lt (IntKind.i64.wrap (x10 + x11)) fun x12 =>
  lt (⟨World.heapSize w1, 0, none⟩ : Addr) fun a13 =>
  lt (World.alloc w1 (.cells ⟨[.slice x7.a x7.len x7.cap, .slice x9.a x9.len x9.cap]⟩ 22)) fun w14 =>
  Calls Try.prog 88 ⟨[.slice (some a13) 2 2]⟩ w14 fun e15 w16 =>
  ∃ r17 : Sl, e15 = .returned (.slice r17.a r17.len r17.cap) ∧
  ((⟨[.int .i64 x12, .slice r17.a r17.len r17.cap]⟩ : Array Value)).size = 2 ∧
  lt (⟨World.heapSize w16, 0, none⟩ : Addr) fun a18 =>
  lt (World.alloc w16 (.cells ⟨(spl [.int .i64 0, .slice none 0 0] 0 (⟨[.int .i64 x12, .slice r17.a r17.len r17.cap]⟩ : Array Value))⟩ 80)) fun w19 =>
  rdO w19 (some a18) (1 * 2) fun c20 =>
  apK Try.prog 80 w19 out_3.a out_3.len out_3.cap 1 c20 fun s21 w22 =>
  lt (IntKind.i64.wrap (i_4 + 2)) fun x23 =>
  nx1 l_0 s21 x23 w22) ∧ (
  lt (⟨World.heapSize w1, 0, none⟩ : Addr) fun a24 =>
  lt (World.alloc w1 (.cells ⟨[.slice x7.a x7.len x7.cap, .slice x9.a x9.len x9.cap]⟩ 22)) fun w25 =>
  (ldI .i64 w25 (Addr.add a4 0) fun x26 =>
  lt (IntKind.i64.wrap (x10 + x26)) fun x27 =>
  Calls Try.prog 88 ⟨[.slice (some a24) 2 2]⟩ w25 fun e28 w29 =>
  ∃ r30 : Sl, e28 = .returned (.slice r30.a r30.len r30.cap) ∧
  ((⟨[.int .i64 x27, .slice r30.a r30.len r30.cap]⟩ : Array Value)).size = 2 ∧
  lt (⟨World.heapSize w29, 0, none⟩ : Addr) fun a31 =>
  lt (World.alloc w29 (.cells ⟨(spl [.int .i64 0, .slice none 0 0] 0 (⟨[.int .i64 x27, .slice r30.a r30.len r30.cap]⟩ : Array Value))⟩ 80)) fun w32 =>
  rdO w32 (some a31) (1 * 2) fun c33 =>
  apK Try.prog 80 w32 out_3.a out_3.len out_3.cap 1 c33 fun s34 w35 =>
  lt (IntKind.i64.wrap (i_4 + 2)) fun x36 =>
  nx1 l_0 s34 x36 w35) ∧ (
  Calls Try.prog 88 ⟨[.slice (some a24) 2 2]⟩ w25 fun e37 w38 =>
  ∃ r39 : Sl, e37 = .returned (.slice r39.a r39.len r39.cap) ∧
  ldI .i64 w38 (Addr.add a4 0) fun x40 =>
  lt (IntKind.i64.wrap (x10 + x40)) fun x41 =>
  ((⟨[.int .i64 x41, .slice r39.a r39.len r39.cap]⟩ : Array Value)).size = 2 ∧
  lt (⟨World.heapSize w38, 0, none⟩ : Addr) fun a42 =>
  lt (World.alloc w38 (.cells ⟨(spl [.int .i64 0, .slice none 0 0] 0 (⟨[.int .i64 x41, .slice r39.a r39.len r39.cap]⟩ : Array Value))⟩ 80)) fun w43 =>
  rdO w43 (some a42) (1 * 2) fun c44 =>
  apK Try.prog 80 w43 out_3.a out_3.len out_3.cap 1 c44 fun s45 w46 =>
  lt (IntKind.i64.wrap (i_4 + 2)) fun x47 =>
  nx1 l_0 s45 x47 w46))) ∧ (
  ldI .i64 w1 (Addr.add a4 0) fun x48 =>
  (ldI .i64 w1 (Addr.add a3 0) fun x49 =>
  lt (IntKind.i64.wrap (x49 + x48)) fun x50 =>
  lt (⟨World.heapSize w1, 0, none⟩ : Addr) fun a51 =>
  lt (World.alloc w1 (.cells ⟨[.slice x7.a x7.len x7.cap, .slice x9.a x9.len x9.cap]⟩ 22)) fun w52 =>
  Calls Try.prog 88 ⟨[.slice (some a51) 2 2]⟩ w52 fun e53 w54 =>
  ∃ r55 : Sl, e53 = .returned (.slice r55.a r55.len r55.cap) ∧
  ((⟨[.int .i64 x50, .slice r55.a r55.len r55.cap]⟩ : Array Value)).size = 2 ∧
  lt (⟨World.heapSize w54, 0, none⟩ : Addr) fun a56 =>
  lt (World.alloc w54 (.cells ⟨(spl [.int .i64 0, .slice none 0 0] 0 (⟨[.int .i64 x50, .slice r55.a r55.len r55.cap]⟩ : Array Value))⟩ 80)) fun w57 =>
  rdO w57 (some a56) (1 * 2) fun c58 =>
  apK Try.prog 80 w57 out_3.a out_3.len out_3.cap 1 c58 fun s59 w60 =>
  lt (IntKind.i64.wrap (i_4 + 2)) fun x61 =>
  nx1 l_0 s59 x61 w60) ∧ (
  lt (⟨World.heapSize w1, 0, none⟩ : Addr) fun a62 =>
  lt (World.alloc w1 (.cells ⟨[.slice x7.a x7.len x7.cap, .slice x9.a x9.len x9.cap]⟩ 22)) fun w63 =>
  (ldI .i64 w63 (Addr.add a3 0) fun x64 =>
  lt (IntKind.i64.wrap (x64 + x48)) fun x65 =>
  Calls Try.prog 88 ⟨[.slice (some a62) 2 2]⟩ w63 fun e66 w67 =>
  ∃ r68 : Sl, e66 = .returned (.slice r68.a r68.len r68.cap) ∧
  ((⟨[.int .i64 x65, .slice r68.a r68.len r68.cap]⟩ : Array Value)).size = 2 ∧
  lt (⟨World.heapSize w67, 0, none⟩ : Addr) fun a69 =>
  lt (World.alloc w67 (.cells ⟨(spl [.int .i64 0, .slice none 0 0] 0 (⟨[.int .i64 x65, .slice r68.a r68.len r68.cap]⟩ : Array Value))⟩ 80)) fun w70 =>
  rdO w70 (some a69) (1 * 2) fun c71 =>
  apK Try.prog 80 w70 out_3.a out_3.len out_3.cap 1 c71 fun s72 w73 =>
  lt (IntKind.i64.wrap (i_4 + 2)) fun x74 =>
  nx1 l_0 s72 x74 w73) ∧ (
  Calls Try.prog 88 ⟨[.slice (some a62) 2 2]⟩ w63 fun e75 w76 =>
  ∃ r77 : Sl, e75 = .returned (.slice r77.a r77.len r77.cap) ∧
  ldI .i64 w76 (Addr.add a3 0) fun x78 =>
  lt (IntKind.i64.wrap (x78 + x48)) fun x79 =>
  ((⟨[.int .i64 x79, .slice r77.a r77.len r77.cap]⟩ : Array Value)).size = 2 ∧
  lt (⟨World.heapSize w76, 0, none⟩ : Addr) fun a80 =>
  lt (World.alloc w76 (.cells ⟨(spl [.int .i64 0, .slice none 0 0] 0 (⟨[.int .i64 x79, .slice r77.a r77.len r77.cap]⟩ : Array Value))⟩ 80)) fun w81 =>
  rdO w81 (some a80) (1 * 2) fun c82 =>
  apK Try.prog 80 w81 out_3.a out_3.len out_3.cap 1 c82 fun s83 w84 =>
  lt (IntKind.i64.wrap (i_4 + 2)) fun x85 =>
  nx1 l_0 s83 x85 w84))) ∧ (
  lt (⟨World.heapSize w1, 0, none⟩ : Addr) fun a86 =>
  lt (World.alloc w1 (.cells ⟨[.slice x7.a x7.len x7.cap, .slice x9.a x9.len x9.cap]⟩ 22)) fun w87 =>
  (ldI .i64 w87 (Addr.add a3 0) fun x88 =>
  (ldI .i64 w87 (Addr.add a4 0) fun x89 =>
  lt (IntKind.i64.wrap (x88 + x89)) fun x90 =>
  Calls Try.prog 88 ⟨[.slice (some a86) 2 2]⟩ w87 fun e91 w92 =>
  ∃ r93 : Sl, e91 = .returned (.slice r93.a r93.len r93.cap) ∧
  ((⟨[.int .i64 x90, .slice r93.a r93.len r93.cap]⟩ : Array Value)).size = 2 ∧
  lt (⟨World.heapSize w92, 0, none⟩ : Addr) fun a94 =>
  lt (World.alloc w92 (.cells ⟨(spl [.int .i64 0, .slice none 0 0] 0 (⟨[.int .i64 x90, .slice r93.a r93.len r93.cap]⟩ : Array Value))⟩ 80)) fun w95 =>
  rdO w95 (some a94) (1 * 2) fun c96 =>
  apK Try.prog 80 w95 out_3.a out_3.len out_3.cap 1 c96 fun s97 w98 =>
  lt (IntKind.i64.wrap (i_4 + 2)) fun x99 =>
  nx1 l_0 s97 x99 w98) ∧ (
  Calls Try.prog 88 ⟨[.slice (some a86) 2 2]⟩ w87 fun e100 w101 =>
  ∃ r102 : Sl, e100 = .returned (.slice r102.a r102.len r102.cap) ∧
  ldI .i64 w101 (Addr.add a4 0) fun x103 =>
  lt (IntKind.i64.wrap (x88 + x103)) fun x104 =>
  ((⟨[.int .i64 x104, .slice r102.a r102.len r102.cap]⟩ : Array Value)).size = 2 ∧
  lt (⟨World.heapSize w101, 0, none⟩ : Addr) fun a105 =>
  lt (World.alloc w101 (.cells ⟨(spl [.int .i64 0, .slice none 0 0] 0 (⟨[.int .i64 x104, .slice r102.a r102.len r102.cap]⟩ : Array Value))⟩ 80)) fun w106 =>
  rdO w106 (some a105) (1 * 2) fun c107 =>
  apK Try.prog 80 w106 out_3.a out_3.len out_3.cap 1 c107 fun s108 w109 =>
  lt (IntKind.i64.wrap (i_4 + 2)) fun x110 =>
  nx1 l_0 s108 x110 w109)) ∧ (
  ldI .i64 w87 (Addr.add a4 0) fun x111 =>
  (ldI .i64 w87 (Addr.add a3 0) fun x112 =>
  lt (IntKind.i64.wrap (x112 + x111)) fun x113 =>
  Calls Try.prog 88 ⟨[.slice (some a86) 2 2]⟩ w87 fun e114 w115 =>
  ∃ r116 : Sl, e114 = .returned (.slice r116.a r116.len r116.cap) ∧
  ((⟨[.int .i64 x113, .slice r116.a r116.len r116.cap]⟩ : Array Value)).size = 2 ∧
  lt (⟨World.heapSize w115, 0, none⟩ : Addr) fun a117 =>
  lt (World.alloc w115 (.cells ⟨(spl [.int .i64 0, .slice none 0 0] 0 (⟨[.int .i64 x113, .slice r116.a r116.len r116.cap]⟩ : Array Value))⟩ 80)) fun w118 =>
  rdO w118 (some a117) (1 * 2) fun c119 =>
  apK Try.prog 80 w118 out_3.a out_3.len out_3.cap 1 c119 fun s120 w121 =>
  lt (IntKind.i64.wrap (i_4 + 2)) fun x122 =>
  nx1 l_0 s120 x122 w121) ∧ (
  Calls Try.prog 88 ⟨[.slice (some a86) 2 2]⟩ w87 fun e123 w124 =>
  ∃ r125 : Sl, e123 = .returned (.slice r125.a r125.len r125.cap) ∧
  ldI .i64 w124 (Addr.add a3 0) fun x126 =>
  lt (IntKind.i64.wrap (x126 + x111)) fun x127 =>
  ((⟨[.int .i64 x127, .slice r125.a r125.len r125.cap]⟩ : Array Value)).size = 2 ∧
  lt (⟨World.heapSize w124, 0, none⟩ : Addr) fun a128 =>
  lt (World.alloc w124 (.cells ⟨(spl [.int .i64 0, .slice none 0 0] 0 (⟨[.int .i64 x127, .slice r125.a r125.len r125.cap]⟩ : Array Value))⟩ 80)) fun w129 =>
  rdO w129 (some a128) (1 * 2) fun c130 =>
  apK Try.prog 80 w129 out_3.a out_3.len out_3.cap 1 c130 fun s131 w132 =>
  lt (IntKind.i64.wrap (i_4 + 2)) fun x133 =>
  nx1 l_0 s131 x133 w132)) ∧ (
  Calls Try.prog 88 ⟨[.slice (some a86) 2 2]⟩ w87 fun e134 w135 =>
  ∃ r136 : Sl, e134 = .returned (.slice r136.a r136.len r136.cap) ∧
  (ldI .i64 w135 (Addr.add a3 0) fun x137 =>
  ldI .i64 w135 (Addr.add a4 0) fun x138 =>
  lt (IntKind.i64.wrap (x137 + x138)) fun x139 =>
  ((⟨[.int .i64 x139, .slice r136.a r136.len r136.cap]⟩ : Array Value)).size = 2 ∧
  lt (⟨World.heapSize w135, 0, none⟩ : Addr) fun a140 =>
  lt (World.alloc w135 (.cells ⟨(spl [.int .i64 0, .slice none 0 0] 0 (⟨[.int .i64 x139, .slice r136.a r136.len r136.cap]⟩ : Array Value))⟩ 80)) fun w141 =>
  rdO w141 (some a140) (1 * 2) fun c142 =>
  apK Try.prog 80 w141 out_3.a out_3.len out_3.cap 1 c142 fun s143 w144 =>
  lt (IntKind.i64.wrap (i_4 + 2)) fun x145 =>
  nx1 l_0 s143 x145 w144) ∧ (
  ldI .i64 w135 (Addr.add a4 0) fun x146 =>
  ldI .i64 w135 (Addr.add a3 0) fun x147 =>
  lt (IntKind.i64.wrap (x147 + x146)) fun x148 =>
  ((⟨[.int .i64 x148, .slice r136.a r136.len r136.cap]⟩ : Array Value)).size = 2 ∧
  lt (⟨World.heapSize w135, 0, none⟩ : Addr) fun a149 =>
  lt (World.alloc w135 (.cells ⟨(spl [.int .i64 0, .slice none 0 0] 0 (⟨[.int .i64 x148, .slice r136.a r136.len r136.cap]⟩ : Array Value))⟩ 80)) fun w150 =>
  rdO w150 (some a149) (1 * 2) fun c151 =>
  apK Try.prog 80 w150 out_3.a out_3.len out_3.cap 1 c151 fun s152 w153 =>
  lt (IntKind.i64.wrap (i_4 + 2)) fun x154 =>
  nx1 l_0 s152 x154 w153)))) (
  limit_pairs.j2 out_3 Q w)

def limit_pairs.l1 (l_0 : Sl) (out_3 : Sl) (i_4 : Int) (Q : Value → World → Prop) (w : World) : Prop :=
  ∃ (I : Sl → Int → World → Prop) (μ : Sl → Int → World → Nat), I out_3 i_4 w ∧ ∀ out_3 : Sl, ∀ i_4 : Int, ∀ w : World, I out_3 i_4 w → limit_pairs.b1 l_0 out_3 i_4 Q (fun l_0' out_3' i_4' w' => (l_0' = l_0) ∧ I out_3' i_4' w' ∧ μ out_3' i_4' w' < μ out_3 i_4 w) w

def limit_pairs.j3 (l_0 : Sl) (out_3 : Sl) (i_4 : Int) (Q : Value → World → Prop) (w : World) : Prop :=
  limit_pairs.l1 l_0 out_3 i_4 Q w

def limit_pairs.j1 (l_0 : Sl) (out_3 : Sl) (Q : Value → World → Prop) (w : World) : Prop :=
  limit_pairs.j3 l_0 out_3 1 Q w

def limit_pairs (l_0 : Sl) (Q : Value → World → Prop) (w : World) : Prop :=
  limit_pairs.j1 l_0 ⟨none, 0, 0⟩ Q w

theorem limit_pairs.ok (l_0 : Sl) (Q : Value → World → Prop) (w : World) (h : limit_pairs l_0 Q w) : Calls Try.prog 39 ⟨[.slice l_0.a l_0.len l_0.cap]⟩ w (Ret Q) := by
  refine calls_of_wpc [.tmp 2] Try.func39 rfl rfl rfl rfl ?_
  refine wpc_pre2 hmix (fun ρ w => asL (ρ 0) fun l_0 => asL (ρ 3) fun out_3 => limit_pairs.j1 l_0 out_3 Q w) (Eq.mp (by kernel_rfl) h) ?_
  intro ρ w h
  obtain ⟨l_0, e0, h⟩ := asL_el h
  obtain ⟨out_3, e3, h⟩ := asL_el h
  refine reroot e0 (reroot (upd_other e3 rfl) ?_)
  refine wpc_seq (fun ρ w => asL (ρ 3) fun out_3 => limit_pairs.j2 out_3 Q w) ?_ ?_
  · skip
    refine wpc_seq (fun ρ w => asL (ρ 0) fun l_0 => asL (ρ 3) fun out_3 => asI .i64 (ρ 4) fun i_4 => limit_pairs.j3 l_0 out_3 i_4 Q w) ?_ ?_
    · skip
      exact pt_sound hmix _ (Eq.mp (by kernel_rfl) h)
    · intro ρ w h
      obtain ⟨l_0, e0, h⟩ := asL_el h
      obtain ⟨out_3, e3, h⟩ := asL_el h
      obtain ⟨i_4, e4, h⟩ := asI_el h
      refine reroot e0 (reroot (upd_other e3 rfl) (reroot (upd_other (upd_other e4 rfl) rfl) ?_))
      refine wpc_block ?_
      obtain ⟨I, μ, hI, hr⟩ := h
      refine wpc_loopS (α := Sl × Int) (fun s ρ => ρ 3 = .slice s.1.a s.1.len s.1.cap ∧ ρ 4 = .int .i64 s.2 ∧ ρ 0 = .slice l_0.a l_0.len l_0.cap) (fun s w => I s.1 s.2 w) (fun s w => μ s.1 s.2 w) (out_3, i_4) ⟨rfl, rfl, rfl⟩ hI ?_
      rintro ⟨out_3, i_4⟩ ρ w ⟨e3, e4, e0⟩ hI
      have h := hr out_3 i_4 w hI
      clear hr
      obtain ⟨nx1, hnx⟩ : ∃ nx : Sl → Sl → Int → World → Prop, nx = (fun l_0' out_3' i_4' w' => (l_0' = l_0) ∧ I out_3' i_4' w' ∧ μ out_3' i_4' w' < μ out_3 i_4 w) := ⟨_, rfl⟩
      rw [← hnx] at h
      refine wpc_norm (M := fun ρ w => asL (ρ 0) fun l_0 => asL (ρ 3) fun out_3 => asI .i64 (ρ 4) fun i_4 => nx1 l_0 out_3 i_4 w) ?_ (fun ρ w h => ?_)
      · skip
        refine reroot e0 (reroot (upd_other e3 rfl) (reroot (upd_other (upd_other e4 rfl) rfl) ?_))
        exact pt_sound hmix _ (Eq.mp (by kernel_rfl) h)
      · skip
        obtain ⟨l_0', e0', h⟩ := asL_el h
        obtain ⟨out_3', e3', h⟩ := asL_el h
        obtain ⟨i_4', e4', h⟩ := asI_el h
        rw [hnx] at h
        obtain ⟨hu, hI2, hμ⟩ := h
        obtain rfl := hu
        exact ⟨(out_3', i_4'), ⟨e3', e4', e0'⟩, hI2, hμ⟩
  · intro ρ w h
    obtain ⟨out_3, e3, h⟩ := asL_el h
    refine reroot e3 ?_
    exact pt_sound hmix _ (Eq.mp (by kernel_rfl) h)

/-! slices.Clone[[]trove/limit.pack,trove/limit.pack] -/
def slices_Clone_limit_pack (s_0 : Sl) (Q : Value → World → Prop) (w : World) : Prop :=
  br (Option.isNone s_0.a) (
  Q (.slice none 0 0) w) (
  lt (⟨World.heapSize w, 0, none⟩ : Addr) fun a1 =>
  lt (World.alloc w (.cells ⟨[]⟩ 80)) fun w2 =>
  rdO w2 s_0.a (s_0.len * 2) fun c3 =>
  apK Try.prog 80 w2 (some a1) 0 0 s_0.len c3 fun s4 w5 =>
  Q (.slice s4.a s4.len s4.cap) w5)

theorem slices_Clone_limit_pack.ok (s_0 : Sl) (Q : Value → World → Prop) (w : World) (h : slices_Clone_limit_pack s_0 Q w) : Calls Try.prog 38 ⟨[.slice s_0.a s_0.len s_0.cap]⟩ w (Ret Q) := by
  refine calls_of_wpc [.tmp 2] Try.func38 rfl rfl rfl rfl ?_
  exact pt_sound hmix _ (Eq.mp (by kernel_rfl) h)

/-! trove/limit.Lengths -/
def limit_Lengths.j6 (t7 : Sl) (Q : Value → World → Prop) (w : World) : Prop :=
  Q (.tuple ⟨[.slice t7.a t7.len t7.cap, .int .i64 0]⟩) w

def limit_Lengths.j9 (t7 : Sl) (t85 : Sl) (t86 : Int) (t87 : Int) (Q : Value → World → Prop) (nx1 : Sl → Sl → Int → Int → World → Prop) (w : World) : Prop :=
  lt (IntKind.i64.wrap (t87 + 1)) fun x1 =>
  nx1 t7 t85 t86 x1 w

def limit_Lengths.b2 (t7 : Sl) (t85 : Sl) (t86 : Int) (t87 : Int) (t92 : Sl) (t93 : Int) (t94 : Int) (Q : Value → World → Prop) (nx1 : Sl → Sl → Int → Int → World → Prop) (nx2 : Sl → Sl → Int → Int → Sl → Int → Int → World → Prop) (w : World) : Prop :=
  br (decide ((t94 : Int) < t93)) (
  ixS t92.a t92.len t94 1 fun a2 =>
  ldI .i64 w a2 fun x3 =>
  ixS t7.a t7.len x3 1 fun a4 =>
  ldI .i64 w a4 fun x5 =>
  lt (IntKind.i64.wrap (x5 + 1)) fun x6 =>
  ixS t7.a t7.len x3 1 fun a7 =>
  st w a7 (.int .i64 x6) fun w8 =>
  lt (IntKind.i64.wrap (t94 + 1)) fun x9 =>
  nx2 t7 t85 t86 t87 t92 t93 x9 w8) (
  limit_Lengths.j9 t7 t85 t86 t87 Q nx1 w)

def limit_Lengths.l2 (t7 : Sl) (t85 : Sl) (t86 : Int) (t87 : Int) (t92 : Sl) (t93 : Int) (t94 : Int) (Q : Value → World → Prop) (nx1 : Sl → Sl → Int → Int → World → Prop) (w : World) : Prop :=
  ∃ (I : Int → World → Prop) (μ : Int → World → Nat), I t94 w ∧ ∀ t94 : Int, ∀ w : World, I t94 w → limit_Lengths.b2 t7 t85 t86 t87 t92 t93 t94 Q nx1 (fun t7' t85' t86' t87' t92' t93' t94' w' => (t7' = t7 ∧ t85' = t85 ∧ t86' = t86 ∧ t87' = t87 ∧ t92' = t92 ∧ t93' = t93) ∧ I t94' w' ∧ μ t94' w' < μ t94 w) w

def limit_Lengths.j10 (t7 : Sl) (t85 : Sl) (t86 : Int) (t87 : Int) (t92 : Sl) (t93 : Int) (t94 : Int) (Q : Value → World → Prop) (nx1 : Sl → Sl → Int → Int → World → Prop) (w : World) : Prop :=
  limit_Lengths.l2 t7 t85 t86 t87 t92 t93 t94 Q nx1 w

def limit_Lengths.j8 (t7 : Sl) (t85 : Sl) (t86 : Int) (t87 : Int) (Q : Value → World → Prop) (nx1 : Sl → Sl → Int → Int → World → Prop) (w : World) : Prop :=
  ixS t85.a t85.len t87 2 fun a10 =>
  ldA w a10 2 fun c11 =>
  lt (⟨World.heapSize w, 0, none⟩ : Addr) fun a12 =>
  lt (World.alloc w (.cells (zc Try.prog 80) 80)) fun w13 =>
  (c11).size = 2 ∧
  stA w13 a12 c11 fun w14 =>
  ldL w14 (Addr.add a12 1) fun x15 =>
  limit_Lengths.j10 t7 t85 t86 t87 x15 ((x15.len : Nat) : Int) 0 Q nx1 w14

def limit_Lengths.b1 (t7 : Sl) (t85 : Sl) (t86 : Int) (t87 : Int) (Q : Value → World → Prop) (nx1 : Sl → Sl → Int → Int → World → Prop) (w : World) : Prop :=
  br (decide ((t87 : Int) < t86)) (
  limit_Lengths.j8 t7 t85 t86 t87 Q nx1 w) (
  limit_Lengths.j6 t7 Q w)

def limit_Lengths.l1 (t7 : Sl) (t85 : Sl) (t86 : Int) (t87 : Int) (Q : Value → World → Prop) (w : World) : Prop :=
  ∃ (I : Int → World → Prop) (μ : Int → World → Nat), I t87 w ∧ ∀ t87 : Int, ∀ w : World, I t87 w → limit_Lengths.b1 t7 t85 t86 t87 Q (fun t7' t85' t86' t87' w' => (t7' = t7 ∧ t85' = t85 ∧ t86' = t86) ∧ I t87' w' ∧ μ t87' w' < μ t87 w) w

def limit_Lengths.j7 (t7 : Sl) (t85 : Sl) (t86 : Int) (t87 : Int) (Q : Value → World → Prop) (w : World) : Prop :=
  limit_Lengths.l1 t7 t85 t86 t87 Q w

def limit_Lengths.j5 (t6 : Sl) (t7 : Sl) (t9 : Sl) (Q : Value → World → Prop) (w : World) : Prop :=
  lt (IntKind.i64.wrap (2 * ((t6.len : Nat) : Int))) fun x16 =>
  lt (IntKind.i64.wrap (x16 - 2)) fun x17 =>
  bd x17 t9.cap fun n18 =>
  lt (⟨cutA t9.a t9.cap 0 2, n18 - 0, t9.cap - 0⟩ : Sl) fun s19 =>
  limit_Lengths.j7 t7 s19 ((s19.len : Nat) : Int) 0 Q w

def limit_Lengths.b3 (t6 : Sl) (t7 : Sl) (t8 : Sl) (t69 : Int) (t9 : Sl) (t70 : Int) (Q : Value → World → Prop) (nx3 : Sl → Sl → Sl → Int → Sl → Int → World → Prop) (w : World) : Prop :=
  br (decide ((t70 : Int) < t69)) (
  Calls Try.prog 38 ⟨[.slice t8.a t8.len t8.cap]⟩ w fun e20 w21 =>
  ∃ r22 : Sl, e20 = .returned (.slice r22.a r22.len r22.cap) ∧
  Calls Try.prog 39 ⟨[.slice t9.a t9.len t9.cap]⟩ w21 fun e23 w24 =>
  ∃ r25 : Sl, e23 = .returned (.slice r25.a r25.len r25.cap) ∧
  rdO w24 r25.a (r25.len * 2) fun c26 =>
  apK Try.prog 80 w24 r22.a r22.len r22.cap r25.len c26 fun s27 w28 =>
  Calls Try.prog 40 ⟨[.slice s27.a s27.len s27.cap, .func (.func 41) ⟨[]⟩ ⟨[]⟩]⟩ w28 fun e29 w30 =>
  e29 = .returned (.tuple ⟨[]⟩) ∧
  lt (IntKind.i64.wrap (t70 + 1)) fun x31 =>
  nx3 t6 t7 t8 t69 s27 x31 w30) (
  limit_Lengths.j5 t6 t7 t9 Q w)

def limit_Lengths.l3 (t6 : Sl) (t7 : Sl) (t8 : Sl) (t69 : Int) (t9 : Sl) (t70 : Int) (Q : Value → World → Prop) (w : World) : Prop :=
  ∃ (I : Sl → Int → World → Prop) (μ : Sl → Int → World → Nat), I t9 t70 w ∧ ∀ t9 : Sl, ∀ t70 : Int, ∀ w : World, I t9 t70 w → limit_Lengths.b3 t6 t7 t8 t69 t9 t70 Q (fun t6' t7' t8' t69' t9' t70' w' => (t6' = t6 ∧ t7' = t7 ∧ t8' = t8 ∧ t69' = t69) ∧ I t9' t70' w' ∧ μ t9' t70' w' < μ t9 t70 w) w

def limit_Lengths.j11 (t6 : Sl) (t7 : Sl) (t8 : Sl) (t9 : Sl) (t69 : Int) (t70 : Int) (Q : Value → World → Prop) (w : World) : Prop :=
  limit_Lengths.l3 t6 t7 t8 t69 t9 t70 Q w

def limit_Lengths.j4 (i_1 : Int) (t6 : Sl) (t7 : Sl) (t8 : Sl) (t9 : Sl) (Q : Value → World → Prop) (w : World) : Prop :=
  limit_Lengths.j11 t6 t7 t8 t9 i_1 0 Q w

def limit_Lengths.b4 (d_0 : Sl) (i_1 : Int) (t6 : Sl) (t7 : Sl) (t9 : Sl) (t52 : Sl) (t53 : Int) (t8 : Sl) (t54 : Int) (Q : Value → World → Prop) (nx4 : Sl → Int → Sl → Sl → Sl → Sl → Int → Sl → Int → World → Prop) (w : World) : Prop :=
  br (decide ((t54 : Int) < t53)) (
  ixS t52.a t52.len t54 1 fun a32 =>
  ldI .i64 w a32 fun x33 =>
  ixS d_0.a d_0.len x33 1 fun a34 =>
  ldI .i64 w a34 fun x35 =>
  lt (⟨World.heapSize w, 0, none⟩ : Addr) fun a36 =>
  lt (World.alloc w (.cells ⟨[.int .i64 x33]⟩ 3)) fun w37 =>
  ((⟨[.int .i64 x35, .slice (some a36) 1 1]⟩ : Array Value)).size = 2 ∧
  lt (⟨World.heapSize w37, 0, none⟩ : Addr) fun a38 =>
  lt (World.alloc w37 (.cells ⟨(spl [.int .i64 0, .slice none 0 0] 0 (⟨[.int .i64 x35, .slice (some a36) 1 1]⟩ : Array Value))⟩ 80)) fun w39 =>
  rdO w39 (some a38) (1 * 2) fun c40 =>
  apK Try.prog 80 w39 t8.a t8.len t8.cap 1 c40 fun s41 w42 =>
  lt (IntKind.i64.wrap (t54 + 1)) fun x43 =>
  nx4 d_0 i_1 t6 t7 t9 t52 t53 s41 x43 w42) (
  limit_Lengths.j4 i_1 t6 t7 t8 t9 Q w)

def limit_Lengths.l4 (d_0 : Sl) (i_1 : Int) (t6 : Sl) (t7 : Sl) (t9 : Sl) (t52 : Sl) (t53 : Int) (t8 : Sl) (t54 : Int) (Q : Value → World → Prop) (w : World) : Prop :=
  ∃ (I : Sl → Int → World → Prop) (μ : Sl → Int → World → Nat), I t8 t54 w ∧ ∀ t8 : Sl, ∀ t54 : Int, ∀ w : World, I t8 t54 w → limit_Lengths.b4 d_0 i_1 t6 t7 t9 t52 t53 t8 t54 Q (fun d_0' i_1' t6' t7' t9' t52' t53' t8' t54' w' => (d_0' = d_0 ∧ i_1' = i_1 ∧ t6' = t6 ∧ t7' = t7 ∧ t9' = t9 ∧ t52' = t52 ∧ t53' = t53) ∧ I t8' t54' w' ∧ μ t8' t54' w' < μ t8 t54 w) w

def limit_Lengths.j12 (d_0 : Sl) (i_1 : Int) (t6 : Sl) (t7 : Sl) (t8 : Sl) (t9 : Sl) (t52 : Sl) (t53 : Int) (t54 : Int) (Q : Value → World → Prop) (w : World) : Prop :=
  limit_Lengths.l4 d_0 i_1 t6 t7 t9 t52 t53 t8 t54 Q w

def limit_Lengths.j3 (d_0 : Sl) (i_1 : Int) (t6 : Sl) (t7 : Sl) (t8 : Sl) (t9 : Sl) (Q : Value → World → Prop) (w : World) : Prop :=
  limit_Lengths.j12 d_0 i_1 t6 t7 t8 t9 t6 ((t6.len : Nat) : Int) 0 Q w

def limit_Lengths.j2 (d_0 : Sl) (i_1 : Int) (t6 : Sl) (t7 : Sl) (Q : Value → World → Prop) (w : World) : Prop :=
  (0 : Int) ≤ i_1 ∧
  lt (shlV .i64 1 i_1) fun x44 =>
  br (decide ((((t6.len : Nat) : Int) : Int) > x44)) (
  Q (.tuple ⟨[.slice none 0 0, .int .i64 7]⟩) w) (
  br ((((t6.len : Nat) : Int) : Int) == 0) (
  Q (.tuple ⟨[.slice t7.a t7.len t7.cap, .int .i64 0]⟩) w) (
  br ((((t6.len : Nat) : Int) : Int) == 1) (
  ixS t6.a t6.len 0 1 fun a45 =>
  ldI .i64 w a45 fun x46 =>
  ixS t7.a t7.len x46 1 fun a47 =>
  st w a47 (.int .i64 1) fun w48 =>
  Q (.tuple ⟨[.slice t7.a t7.len t7.cap, .int .i64 0]⟩) w48) (
  limit_Lengths.j3 d_0 i_1 t6 t7 ⟨none, 0, 0⟩ ⟨none, 0, 0⟩ Q w)))

def limit_Lengths.j1 (d_0 : Sl) (i_1 : Int) (Q : Value → World → Prop) (w : World) : Prop :=
  Calls Try.prog 37 ⟨[.slice d_0.a d_0.len d_0.cap]⟩ w fun e49 w50 =>
  ∃ r51 : Sl, e49 = .returned (.slice r51.a r51.len r51.cap) ∧
  mkK Try.prog 3 w50 ((d_0.len : Nat) : Int) ((d_0.len : Nat) : Int) fun s52 w53 =>
  limit_Lengths.j2 d_0 i_1 r51 s52 Q w53

def limit_Lengths (d_0 : Sl) (i_1 : Int) (Q : Value → World → Prop) (w : World) : Prop :=
  Calls Try.prog 36 ⟨[.slice d_0.a d_0.len d_0.cap]⟩ w fun e54 w55 =>
  ∃ r56 : Bool, e54 = .returned (.bool r56) ∧
  br r56 (
  Q (.tuple ⟨[.slice none 0 0, .int .i64 1]⟩) w55) (
  br (decide ((i_1 : Int) < 1)) (
  Q (.tuple ⟨[.slice none 0 0, .int .i64 1]⟩) w55) (
  br (decide ((i_1 : Int) > 15)) (
  Q (.tuple ⟨[.slice none 0 0, .int .i64 1]⟩) w55) (
  limit_Lengths.j1 d_0 i_1 Q w55)))

theorem limit_Lengths.ok (d_0 : Sl) (i_1 : Int) (Q : Value → World → Prop) (w : World) (h : limit_Lengths d_0 i_1 Q w) : Calls Try.prog 11 ⟨[.slice d_0.a d_0.len d_0.cap, .int .i64 i_1]⟩ w (Ret Q) := by
  refine calls_of_wpc [.tmp 4, .tmp 5] Try.func11 rfl rfl rfl rfl ?_
  refine wpc_pre2 hmix (fun ρ w => asL (ρ 0) fun d_0 => asI .i64 (ρ 1) fun i_1 => limit_Lengths.j1 d_0 i_1 Q w) (Eq.mp (by kernel_rfl) h) ?_
  intro ρ w h
  obtain ⟨d_0, e0, h⟩ := asL_el h
  obtain ⟨i_1, e1, h⟩ := asI_el h
  refine reroot e0 (reroot (upd_other e1 rfl) ?_)
  refine wpc_pre2 hmix (fun ρ w => asL (ρ 0) fun d_0 => asI .i64 (ρ 1) fun i_1 => asL (ρ 6) fun t6 => asL (ρ 7) fun t7 => limit_Lengths.j2 d_0 i_1 t6 t7 Q w) (Eq.mp (by kernel_rfl) h) ?_
  intro ρ w h
  obtain ⟨d_0, e0, h⟩ := asL_el h
  obtain ⟨i_1, e1, h⟩ := asI_el h
  obtain ⟨t6, e6, h⟩ := asL_el h
  obtain ⟨t7, e7, h⟩ := asL_el h
  refine reroot e0 (reroot (upd_other e1 rfl) (reroot (upd_other (upd_other e6 rfl) rfl) (reroot (upd_other (upd_other (upd_other e7 rfl) rfl) rfl) ?_)))
  refine wpc_pre2 hmix (fun ρ w => asL (ρ 0) fun d_0 => asI .i64 (ρ 1) fun i_1 => asL (ρ 6) fun t6 => asL (ρ 7) fun t7 => asL (ρ 8) fun t8 => asL (ρ 9) fun t9 => limit_Lengths.j3 d_0 i_1 t6 t7 t8 t9 Q w) (Eq.mp (by kernel_rfl) h) ?_
  intro ρ w h
  obtain ⟨d_0, e0, h⟩ := asL_el h
  obtain ⟨i_1, e1, h⟩ := asI_el h
  obtain ⟨t6, e6, h⟩ := asL_el h
  obtain ⟨t7, e7, h⟩ := asL_el h
  obtain ⟨t8, e8, h⟩ := asL_el h
  obtain ⟨t9, e9, h⟩ := asL_el h
  refine reroot e0 (reroot (upd_other e1 rfl) (reroot (upd_other (upd_other e6 rfl) rfl) (reroot (upd_other (upd_other (upd_other e7 rfl) rfl) rfl) (reroot (upd_other (upd_other (upd_other (upd_other e8 rfl) rfl) rfl) rfl) (reroot (upd_other (upd_other (upd_other (upd_other (upd_other e9 rfl) rfl) rfl) rfl) rfl) ?_)))))
  refine wpc_seq (fun ρ w => asI .i64 (ρ 1) fun i_1 => asL (ρ 6) fun t6 => asL (ρ 7) fun t7 => asL (ρ 8) fun t8 => asL (ρ 9) fun t9 => limit_Lengths.j4 i_1 t6 t7 t8 t9 Q w) ?_ ?_
  · skip
    refine wpc_seq (fun ρ w => asL (ρ 0) fun d_0 => asI .i64 (ρ 1) fun i_1 => asL (ρ 6) fun t6 => asL (ρ 7) fun t7 => asL (ρ 8) fun t8 => asL (ρ 9) fun t9 => asL (ρ 52) fun t52 => asI .i64 (ρ 53) fun t53 => asI .i64 (ρ 54) fun t54 => limit_Lengths.j12 d_0 i_1 t6 t7 t8 t9 t52 t53 t54 Q w) ?_ ?_
    · skip
      exact pt_sound hmix _ (Eq.mp (by kernel_rfl) h)
    · intro ρ w h
      obtain ⟨d_0, e0, h⟩ := asL_el h
      obtain ⟨i_1, e1, h⟩ := asI_el h
      obtain ⟨t6, e6, h⟩ := asL_el h
      obtain ⟨t7, e7, h⟩ := asL_el h
      obtain ⟨t8, e8, h⟩ := asL_el h
      obtain ⟨t9, e9, h⟩ := asL_el h
      obtain ⟨t52, e52, h⟩ := asL_el h
      obtain ⟨t53, e53, h⟩ := asI_el h
      obtain ⟨t54, e54, h⟩ := asI_el h
      refine reroot e0 (reroot (upd_other e1 rfl) (reroot (upd_other (upd_other e6 rfl) rfl) (reroot (upd_other (upd_other (upd_other e7 rfl) rfl) rfl) (reroot (upd_other (upd_other (upd_other (upd_other e8 rfl) rfl) rfl) rfl) (reroot (upd_other (upd_other (upd_other (upd_other (upd_other e9 rfl) rfl) rfl) rfl) rfl) (reroot (upd_other (upd_other (upd_other (upd_other (upd_other (upd_other e52 rfl) rfl) rfl) rfl) rfl) rfl) (reroot (upd_other (upd_other (upd_other (upd_other (upd_other (upd_other (upd_other e53 rfl) rfl) rfl) rfl) rfl) rfl) rfl) (reroot (upd_other (upd_other (upd_other (upd_other (upd_other (upd_other (upd_other (upd_other e54 rfl) rfl) rfl) rfl) rfl) rfl) rfl) rfl) ?_))))))))
      refine wpc_block ?_
      obtain ⟨I, μ, hI, hr⟩ := h
      refine wpc_loopS (α := Sl × Int) (fun s ρ => ρ 8 = .slice s.1.a s.1.len s.1.cap ∧ ρ 54 = .int .i64 s.2 ∧ ρ 0 = .slice d_0.a d_0.len d_0.cap ∧ ρ 1 = .int .i64 i_1 ∧ ρ 6 = .slice t6.a t6.len t6.cap ∧ ρ 7 = .slice t7.a t7.len t7.cap ∧ ρ 9 = .slice t9.a t9.len t9.cap ∧ ρ 52 = .slice t52.a t52.len t52.cap ∧ ρ 53 = .int .i64 t53) (fun s w => I s.1 s.2 w) (fun s w => μ s.1 s.2 w) (t8, t54) ⟨rfl, rfl, rfl, rfl, rfl, rfl, rfl, rfl, rfl⟩ hI ?_
      rintro ⟨t8, t54⟩ ρ w ⟨e8, e54, e0, e1, e6, e7, e9, e52, e53⟩ hI
      have h := hr t8 t54 w hI
      clear hr
      obtain ⟨nx4, hnx⟩ : ∃ nx : Sl → Int → Sl → Sl → Sl → Sl → Int → Sl → Int → World → Prop, nx = (fun d_0' i_1' t6' t7' t9' t52' t53' t8' t54' w' => (d_0' = d_0 ∧ i_1' = i_1 ∧ t6' = t6 ∧ t7' = t7 ∧ t9' = t9 ∧ t52' = t52 ∧ t53' = t53) ∧ I t8' t54' w' ∧ μ t8' t54' w' < μ t8 t54 w) := ⟨_, rfl⟩
      rw [← hnx] at h
      refine wpc_norm (M := fun ρ w => asL (ρ 0) fun d_0 => asI .i64 (ρ 1) fun i_1 => asL (ρ 6) fun t6 => asL (ρ 7) fun t7 => asL (ρ 9) fun t9 => asL (ρ 52) fun t52 => asI .i64 (ρ 53) fun t53 => asL (ρ 8) fun t8 => asI .i64 (ρ 54) fun t54 => nx4 d_0 i_1 t6 t7 t9 t52 t53 t8 t54 w) ?_ (fun ρ w h => ?_)
      · skip
        refine reroot e0 (reroot (upd_other e1 rfl) (reroot (upd_other (upd_other e6 rfl) rfl) (reroot (upd_other (upd_other (upd_other e7 rfl) rfl) rfl) (reroot (upd_other (upd_other (upd_other (upd_other e8 rfl) rfl) rfl) rfl) (reroot (upd_other (upd_other (upd_other (upd_other (upd_other e9 rfl) rfl) rfl) rfl) rfl) (reroot (upd_other (upd_other (upd_other (upd_other (upd_other (upd_other e52 rfl) rfl) rfl) rfl) rfl) rfl) (reroot (upd_other (upd_other (upd_other (upd_other (upd_other (upd_other (upd_other e53 rfl) rfl) rfl) rfl) rfl) rfl) rfl) (reroot (upd_other (upd_other (upd_other (upd_other (upd_other (upd_other (upd_other (upd_other e54 rfl) rfl) rfl) rfl) rfl) rfl) rfl) rfl) ?_))))))))
        exact pt_sound hmix _ (Eq.mp (by kernel_rfl) h)
      · skip
        obtain ⟨d_0', e0', h⟩ := asL_el h
        obtain ⟨i_1', e1', h⟩ := asI_el h
        obtain ⟨t6', e6', h⟩ := asL_el h
        obtain ⟨t7', e7', h⟩ := asL_el h
        obtain ⟨t9', e9', h⟩ := asL_el h
        obtain ⟨t52', e52', h⟩ := asL_el h
        obtain ⟨t53', e53', h⟩ := asI_el h
        obtain ⟨t8', e8', h⟩ := asL_el h
        obtain ⟨t54', e54', h⟩ := asI_el h
        rw [hnx] at h
        obtain ⟨hu, hI2, hμ⟩ := h
        obtain ⟨rfl, rfl, rfl, rfl, rfl, rfl, rfl⟩ := hu
        exact ⟨(t8', t54'), ⟨e8', e54', e0', e1', e6', e7', e9', e52', e53'⟩, hI2, hμ⟩
  · intro ρ w h
    obtain ⟨i_1, e1, h⟩ := asI_el h
    obtain ⟨t6, e6, h⟩ := asL_el h
    obtain ⟨t7, e7, h⟩ := asL_el h
    obtain ⟨t8, e8, h⟩ := asL_el h
    obtain ⟨t9, e9, h⟩ := asL_el h
    refine reroot e1 (reroot (upd_other e6 rfl) (reroot (upd_other (upd_other e7 rfl) rfl) (reroot (upd_other (upd_other (upd_other e8 rfl) rfl) rfl) (reroot (upd_other (upd_other (upd_other (upd_other e9 rfl) rfl) rfl) rfl) ?_))))
    refine wpc_seq (fun ρ w => asL (ρ 6) fun t6 => asL (ρ 7) fun t7 => asL (ρ 9) fun t9 => limit_Lengths.j5 t6 t7 t9 Q w) ?_ ?_
    · skip
      refine wpc_seq (fun ρ w => asL (ρ 6) fun t6 => asL (ρ 7) fun t7 => asL (ρ 8) fun t8 => asL (ρ 9) fun t9 => asI .i64 (ρ 69) fun t69 => asI .i64 (ρ 70) fun t70 => limit_Lengths.j11 t6 t7 t8 t9 t69 t70 Q w) ?_ ?_
      · skip
        exact pt_sound hmix _ (Eq.mp (by kernel_rfl) h)
      · intro ρ w h
        obtain ⟨t6, e6, h⟩ := asL_el h
        obtain ⟨t7, e7, h⟩ := asL_el h
        obtain ⟨t8, e8, h⟩ := asL_el h
        obtain ⟨t9, e9, h⟩ := asL_el h
        obtain ⟨t69, e69, h⟩ := asI_el h
        obtain ⟨t70, e70, h⟩ := asI_el h
        refine reroot e6 (reroot (upd_other e7 rfl) (reroot (upd_other (upd_other e8 rfl) rfl) (reroot (upd_other (upd_other (upd_other e9 rfl) rfl) rfl) (reroot (upd_other (upd_other (upd_other (upd_other e69 rfl) rfl) rfl) rfl) (reroot (upd_other (upd_other (upd_other (upd_other (upd_other e70 rfl) rfl) rfl) rfl) rfl) ?_)))))
        refine wpc_block ?_
        obtain ⟨I, μ, hI, hr⟩ := h
        refine wpc_loopS (α := Sl × Int) (fun s ρ => ρ 9 = .slice s.1.a s.1.len s.1.cap ∧ ρ 70 = .int .i64 s.2 ∧ ρ 6 = .slice t6.a t6.len t6.cap ∧ ρ 7 = .slice t7.a t7.len t7.cap ∧ ρ 8 = .slice t8.a t8.len t8.cap ∧ ρ 69 = .int .i64 t69) (fun s w => I s.1 s.2 w) (fun s w => μ s.1 s.2 w) (t9, t70) ⟨rfl, rfl, rfl, rfl, rfl, rfl⟩ hI ?_
        rintro ⟨t9, t70⟩ ρ w ⟨e9, e70, e6, e7, e8, e69⟩ hI
        have h := hr t9 t70 w hI
        clear hr
        obtain ⟨nx3, hnx⟩ : ∃ nx : Sl → Sl → Sl → Int → Sl → Int → World → Prop, nx = (fun t6' t7' t8' t69' t9' t70' w' => (t6' = t6 ∧ t7' = t7 ∧ t8' = t8 ∧ t69' = t69) ∧ I t9' t70' w' ∧ μ t9' t70' w' < μ t9 t70 w) := ⟨_, rfl⟩
        rw [← hnx] at h
        refine wpc_norm (M := fun ρ w => asL (ρ 6) fun t6 => asL (ρ 7) fun t7 => asL (ρ 8) fun t8 => asI .i64 (ρ 69) fun t69 => asL (ρ 9) fun t9 => asI .i64 (ρ 70) fun t70 => nx3 t6 t7 t8 t69 t9 t70 w) ?_ (fun ρ w h => ?_)
        · skip
          refine reroot e6 (reroot (upd_other e7 rfl) (reroot (upd_other (upd_other e8 rfl) rfl) (reroot (upd_other (upd_other (upd_other e9 rfl) rfl) rfl) (reroot (upd_other (upd_other (upd_other (upd_other e69 rfl) rfl) rfl) rfl) (reroot (upd_other (upd_other (upd_other (upd_other (upd_other e70 rfl) rfl) rfl) rfl) rfl) ?_)))))
          exact pt_sound hmix _ (Eq.mp (by kernel_rfl) h)
        · skip
          obtain ⟨t6', e6', h⟩ := asL_el h
          obtain ⟨t7', e7', h⟩ := asL_el h
          obtain ⟨t8', e8', h⟩ := asL_el h
          obtain ⟨t69', e69', h⟩ := asI_el h
          obtain ⟨t9', e9', h⟩ := asL_el h
          obtain ⟨t70', e70', h⟩ := asI_el h
          rw [hnx] at h
          obtain ⟨hu, hI2, hμ⟩ := h
          obtain ⟨rfl, rfl, rfl, rfl⟩ := hu
          exact ⟨(t9', t70'), ⟨e9', e70', e6', e7', e8', e69'⟩, hI2, hμ⟩
    · intro ρ w h
      obtain ⟨t6, e6, h⟩ := asL_el h
      obtain ⟨t7, e7, h⟩ := asL_el h
      obtain ⟨t9, e9, h⟩ := asL_el h
      refine reroot e6 (reroot (upd_other e7 rfl) (reroot (upd_other (upd_other e9 rfl) rfl) ?_))
      refine wpc_seq (fun ρ w => asL (ρ 7) fun t7 => limit_Lengths.j6 t7 Q w) ?_ ?_
      · skip
        refine wpc_seq (fun ρ w => asL (ρ 7) fun t7 => asL (ρ 85) fun t85 => asI .i64 (ρ 86) fun t86 => asI .i64 (ρ 87) fun t87 => limit_Lengths.j7 t7 t85 t86 t87 Q w) ?_ ?_
        · skip
          exact pt_sound hmix _ (Eq.mp (by kernel_rfl) h)
        · intro ρ w h
          obtain ⟨t7, e7, h⟩ := asL_el h
          obtain ⟨t85, e85, h⟩ := asL_el h
          obtain ⟨t86, e86, h⟩ := asI_el h
          obtain ⟨t87, e87, h⟩ := asI_el h
          refine reroot e7 (reroot (upd_other e85 rfl) (reroot (upd_other (upd_other e86 rfl) rfl) (reroot (upd_other (upd_other (upd_other e87 rfl) rfl) rfl) ?_)))
          refine wpc_block ?_
          obtain ⟨I, μ, hI, hr⟩ := h
          refine wpc_loopS (α := Int) (fun s ρ => ρ 87 = .int .i64 s ∧ ρ 7 = .slice t7.a t7.len t7.cap ∧ ρ 85 = .slice t85.a t85.len t85.cap ∧ ρ 86 = .int .i64 t86) (fun s w => I s w) (fun s w => μ s w) t87 ⟨rfl, rfl, rfl, rfl⟩ hI ?_
          rintro t87 ρ w ⟨e87, e7, e85, e86⟩ hI
          have h := hr t87 w hI
          clear hr
          obtain ⟨nx1, hnx⟩ : ∃ nx : Sl → Sl → Int → Int → World → Prop, nx = (fun t7' t85' t86' t87' w' => (t7' = t7 ∧ t85' = t85 ∧ t86' = t86) ∧ I t87' w' ∧ μ t87' w' < μ t87 w) := ⟨_, rfl⟩
          rw [← hnx] at h
          refine wpc_norm (M := fun ρ w => asL (ρ 7) fun t7 => asL (ρ 85) fun t85 => asI .i64 (ρ 86) fun t86 => asI .i64 (ρ 87) fun t87 => nx1 t7 t85 t86 t87 w) ?_ (fun ρ w h => ?_)
          · skip
            refine reroot e7 (reroot (upd_other e85 rfl) (reroot (upd_other (upd_other e86 rfl) rfl) (reroot (upd_other (upd_other (upd_other e87 rfl) rfl) rfl) ?_)))
            refine wpc_pre2 hmix (fun ρ w => asL (ρ 7) fun t7 => asL (ρ 85) fun t85 => asI .i64 (ρ 86) fun t86 => asI .i64 (ρ 87) fun t87 => limit_Lengths.j8 t7 t85 t86 t87 Q nx1 w) (Eq.mp (by kernel_rfl) h) ?_
            intro ρ w h
            obtain ⟨t7, e7, h⟩ := asL_el h
            obtain ⟨t85, e85, h⟩ := asL_el h
            obtain ⟨t86, e86, h⟩ := asI_el h
            obtain ⟨t87, e87, h⟩ := asI_el h
            refine reroot e7 (reroot (upd_other e85 rfl) (reroot (upd_other (upd_other e86 rfl) rfl) (reroot (upd_other (upd_other (upd_other e87 rfl) rfl) rfl) ?_)))
            refine wpc_seq (fun ρ w => asL (ρ 7) fun t7 => asL (ρ 85) fun t85 => asI .i64 (ρ 86) fun t86 => asI .i64 (ρ 87) fun t87 => limit_Lengths.j9 t7 t85 t86 t87 Q nx1 w) ?_ ?_
            · skip
              refine wpc_block ?_
              refine wpc_pre2 hmix (fun ρ w => asL (ρ 7) fun t7 => asL (ρ 85) fun t85 => asI .i64 (ρ 86) fun t86 => asI .i64 (ρ 87) fun t87 => asL (ρ 92) fun t92 => asI .i64 (ρ 93) fun t93 => asI .i64 (ρ 94) fun t94 => limit_Lengths.j10 t7 t85 t86 t87 t92 t93 t94 Q nx1 w) (Eq.mp (by kernel_rfl) h) ?_
              intro ρ w h
              obtain ⟨t7, e7, h⟩ := asL_el h
              obtain ⟨t85, e85, h⟩ := asL_el h
              obtain ⟨t86, e86, h⟩ := asI_el h
              obtain ⟨t87, e87, h⟩ := asI_el h
              obtain ⟨t92, e92, h⟩ := asL_el h
              obtain ⟨t93, e93, h⟩ := asI_el h
              obtain ⟨t94, e94, h⟩ := asI_el h
              refine reroot e7 (reroot (upd_other e85 rfl) (reroot (upd_other (upd_other e86 rfl) rfl) (reroot (upd_other (upd_other (upd_other e87 rfl) rfl) rfl) (reroot (upd_other (upd_other (upd_other (upd_other e92 rfl) rfl) rfl) rfl) (reroot (upd_other (upd_other (upd_other (upd_other (upd_other e93 rfl) rfl) rfl) rfl) rfl) (reroot (upd_other (upd_other (upd_other (upd_other (upd_other (upd_other e94 rfl) rfl) rfl) rfl) rfl) rfl) ?_))))))
              refine wpc_block ?_
              obtain ⟨I, μ, hI, hr⟩ := h
              refine wpc_loopS (α := Int) (fun s ρ => ρ 94 = .int .i64 s ∧ ρ 7 = .slice t7.a t7.len t7.cap ∧ ρ 85 = .slice t85.a t85.len t85.cap ∧ ρ 86 = .int .i64 t86 ∧ ρ 87 = .int .i64 t87 ∧ ρ 92 = .slice t92.a t92.len t92.cap ∧ ρ 93 = .int .i64 t93) (fun s w => I s w) (fun s w => μ s w) t94 ⟨rfl, rfl, rfl, rfl, rfl, rfl, rfl⟩ hI ?_
              rintro t94 ρ w ⟨e94, e7, e85, e86, e87, e92, e93⟩ hI
              have h := hr t94 w hI
              clear hr
              obtain ⟨nx2, hnx⟩ : ∃ nx : Sl → Sl → Int → Int → Sl → Int → Int → World → Prop, nx = (fun t7' t85' t86' t87' t92' t93' t94' w' => (t7' = t7 ∧ t85' = t85 ∧ t86' = t86 ∧ t87' = t87 ∧ t92' = t92 ∧ t93' = t93) ∧ I t94' w' ∧ μ t94' w' < μ t94 w) := ⟨_, rfl⟩
              rw [← hnx] at h
              refine wpc_norm (M := fun ρ w => asL (ρ 7) fun t7 => asL (ρ 85) fun t85 => asI .i64 (ρ 86) fun t86 => asI .i64 (ρ 87) fun t87 => asL (ρ 92) fun t92 => asI .i64 (ρ 93) fun t93 => asI .i64 (ρ 94) fun t94 => nx2 t7 t85 t86 t87 t92 t93 t94 w) ?_ (fun ρ w h => ?_)
              · skip
                refine reroot e7 (reroot (upd_other e85 rfl) (reroot (upd_other (upd_other e86 rfl) rfl) (reroot (upd_other (upd_other (upd_other e87 rfl) rfl) rfl) (reroot (upd_other (upd_other (upd_other (upd_other e92 rfl) rfl) rfl) rfl) (reroot (upd_other (upd_other (upd_other (upd_other (upd_other e93 rfl) rfl) rfl) rfl) rfl) (reroot (upd_other (upd_other (upd_other (upd_other (upd_other (upd_other e94 rfl) rfl) rfl) rfl) rfl) rfl) ?_))))))
                exact pt_sound hmix _ (Eq.mp (by kernel_rfl) h)
              · skip
                obtain ⟨t7', e7', h⟩ := asL_el h
                obtain ⟨t85', e85', h⟩ := asL_el h
                obtain ⟨t86', e86', h⟩ := asI_el h
                obtain ⟨t87', e87', h⟩ := asI_el h
                obtain ⟨t92', e92', h⟩ := asL_el h
                obtain ⟨t93', e93', h⟩ := asI_el h
                obtain ⟨t94', e94', h⟩ := asI_el h
                rw [hnx] at h
                obtain ⟨hu, hI2, hμ⟩ := h
                obtain ⟨rfl, rfl, rfl, rfl, rfl, rfl⟩ := hu
                exact ⟨t94', ⟨e94', e7', e85', e86', e87', e92', e93'⟩, hI2, hμ⟩
            · intro ρ w h
              obtain ⟨t7, e7, h⟩ := asL_el h
              obtain ⟨t85, e85, h⟩ := asL_el h
              obtain ⟨t86, e86, h⟩ := asI_el h
              obtain ⟨t87, e87, h⟩ := asI_el h
              refine reroot e7 (reroot (upd_other e85 rfl) (reroot (upd_other (upd_other e86 rfl) rfl) (reroot (upd_other (upd_other (upd_other e87 rfl) rfl) rfl) ?_)))
              exact pt_sound hmix _ (Eq.mp (by kernel_rfl) h)
          · skip
            obtain ⟨t7', e7', h⟩ := asL_el h
            obtain ⟨t85', e85', h⟩ := asL_el h
            obtain ⟨t86', e86', h⟩ := asI_el h
            obtain ⟨t87', e87', h⟩ := asI_el h
            rw [hnx] at h
            obtain ⟨hu, hI2, hμ⟩ := h
            obtain ⟨rfl, rfl, rfl⟩ := hu
            exact ⟨t87', ⟨e87', e7', e85', e86'⟩, hI2, hμ⟩
      · intro ρ w h
        obtain ⟨t7, e7, h⟩ := asL_el h
        refine reroot e7 ?_
        exact pt_sound hmix _ (Eq.mp (by kernel_rfl) h)

/-! trove/limit.Least -/
def limit_Least.j3 (err_7 : Int) (n_8 : Int) (Q : Value → World → Prop) (w : World) : Prop :=
  Q (.tuple ⟨[.int .i64 n_8, .int .i64 err_7]⟩) w

def limit_Least.b1 (counts_0 : Sl) (err_7 : Int) (t17 : Sl) (t18 : Int) (n_8 : Int) (t19 : Int) (Q : Value → World → Prop) (nx1 : Sl → Int → Sl → Int → Int → Int → World → Prop) (w : World) : Prop :=
  br (decide ((t19 : Int) < t18)) (
  ixS t17.a t17.len t19 1 fun a1 =>
  ldI .i64 w a1 fun x2 =>
  ixS counts_0.a counts_0.len t19 1 fun a3 =>
  ldI .i64 w a3 fun x4 =>
  lt (IntKind.i64.wrap (x2 * x4)) fun x5 =>
  lt (IntKind.i64.wrap (n_8 + x5)) fun x6 =>
  lt (IntKind.i64.wrap (t19 + 1)) fun x7 =>
  nx1 counts_0 err_7 t17 t18 x6 x7 w) (
  limit_Least.j3 err_7 n_8 Q w)

def limit_Least.l1 (counts_0 : Sl) (err_7 : Int) (t17 : Sl) (t18 : Int) (n_8 : Int) (t19 : Int) (Q : Value → World → Prop) (w : World) : Prop :=
  ∃ (I : Int → Int → World → Prop) (μ : Int → Int → World → Nat), I n_8 t19 w ∧ ∀ n_8 : Int, ∀ t19 : Int, ∀ w : World, I n_8 t19 w → limit_Least.b1 counts_0 err_7 t17 t18 n_8 t19 Q (fun counts_0' err_7' t17' t18' n_8' t19' w' => (counts_0' = counts_0 ∧ err_7' = err_7 ∧ t17' = t17 ∧ t18' = t18) ∧ I n_8' t19' w' ∧ μ n_8' t19' w' < μ n_8 t19 w) w

def limit_Least.j4 (counts_0 : Sl) (err_7 : Int) (n_8 : Int) (t17 : Sl) (t18 : Int) (t19 : Int) (Q : Value → World → Prop) (w : World) : Prop :=
  limit_Least.l1 counts_0 err_7 t17 t18 n_8 t19 Q w

def limit_Least.j2 (counts_0 : Sl) (l_6 : Sl) (err_7 : Int) (n_8 : Int) (Q : Value → World → Prop) (w : World) : Prop :=
  limit_Least.j4 counts_0 err_7 n_8 l_6 ((l_6.len : Nat) : Int) 0 Q w

def limit_Least.j1 (counts_0 : Sl) (most_1 : Int) (Q : Value → World → Prop) (w : World) : Prop :=
  Calls Try.prog 11 ⟨[.slice counts_0.a counts_0.len counts_0.cap, .int .i64 most_1]⟩ w fun e8 w9 =>
  ∃ r10 : Sl, ∃ r11 : Int, e8 = .returned (.tuple ⟨[.slice r10.a r10.len r10.cap, .int .i64 r11]⟩) ∧
  limit_Least.j2 counts_0 r10 r11 0 Q w9

def limit_Least (counts_0 : Sl) (most_1 : Int) (Q : Value → World → Prop) (w : World) : Prop :=
  limit_Least.j1 counts_0 most_1 Q w

theorem limit_Least.ok (counts_0 : Sl) (most_1 : Int) (Q : Value → World → Prop) (w : World) (h : limit_Least counts_0 most_1 Q w) : Calls Try.prog 10 ⟨[.slice counts_0.a counts_0.len counts_0.cap, .int .i64 most_1]⟩ w (Ret Q) := by
  refine calls_of_wpc [.tmp 4, .tmp 5] Try.func10 rfl rfl rfl rfl ?_
  refine wpc_seq (fun ρ w => asL (ρ 0) fun counts_0 => asI .i64 (ρ 1) fun most_1 => limit_Least.j1 counts_0 most_1 Q w) ?_ ?_
  · skip
    exact pt_sound hmix _ (Eq.mp (by kernel_rfl) h)
  · intro ρ w h
    obtain ⟨counts_0, e0, h⟩ := asL_el h
    obtain ⟨most_1, e1, h⟩ := asI_el h
    refine reroot e0 (reroot (upd_other e1 rfl) ?_)
    refine wpc_pre2 hmix (fun ρ w => asL (ρ 0) fun counts_0 => asL (ρ 6) fun l_6 => asI .i64 (ρ 7) fun err_7 => asI .i64 (ρ 8) fun n_8 => limit_Least.j2 counts_0 l_6 err_7 n_8 Q w) (Eq.mp (by kernel_rfl) h) ?_
    intro ρ w h
    obtain ⟨counts_0, e0, h⟩ := asL_el h
    obtain ⟨l_6, e6, h⟩ := asL_el h
    obtain ⟨err_7, e7, h⟩ := asI_el h
    obtain ⟨n_8, e8, h⟩ := asI_el h
    refine reroot e0 (reroot (upd_other e6 rfl) (reroot (upd_other (upd_other e7 rfl) rfl) (reroot (upd_other (upd_other (upd_other e8 rfl) rfl) rfl) ?_)))
    refine wpc_seq (fun ρ w => asI .i64 (ρ 7) fun err_7 => asI .i64 (ρ 8) fun n_8 => limit_Least.j3 err_7 n_8 Q w) ?_ ?_
    · skip
      refine wpc_seq (fun ρ w => asL (ρ 0) fun counts_0 => asI .i64 (ρ 7) fun err_7 => asI .i64 (ρ 8) fun n_8 => asL (ρ 17) fun t17 => asI .i64 (ρ 18) fun t18 => asI .i64 (ρ 19) fun t19 => limit_Least.j4 counts_0 err_7 n_8 t17 t18 t19 Q w) ?_ ?_
      · skip
        exact pt_sound hmix _ (Eq.mp (by kernel_rfl) h)
      · intro ρ w h
        obtain ⟨counts_0, e0, h⟩ := asL_el h
        obtain ⟨err_7, e7, h⟩ := asI_el h
        obtain ⟨n_8, e8, h⟩ := asI_el h
        obtain ⟨t17, e17, h⟩ := asL_el h
        obtain ⟨t18, e18, h⟩ := asI_el h
        obtain ⟨t19, e19, h⟩ := asI_el h
        refine reroot e0 (reroot (upd_other e7 rfl) (reroot (upd_other (upd_other e8 rfl) rfl) (reroot (upd_other (upd_other (upd_other e17 rfl) rfl) rfl) (reroot (upd_other (upd_other (upd_other (upd_other e18 rfl) rfl) rfl) rfl) (reroot (upd_other (upd_other (upd_other (upd_other (upd_other e19 rfl) rfl) rfl) rfl) rfl) ?_)))))
        refine wpc_block ?_
        obtain ⟨I, μ, hI, hr⟩ := h
        refine wpc_loopS (α := Int × Int) (fun s ρ => ρ 8 = .int .i64 s.1 ∧ ρ 19 = .int .i64 s.2 ∧ ρ 0 = .slice counts_0.a counts_0.len counts_0.cap ∧ ρ 7 = .int .i64 err_7 ∧ ρ 17 = .slice t17.a t17.len t17.cap ∧ ρ 18 = .int .i64 t18) (fun s w => I s.1 s.2 w) (fun s w => μ s.1 s.2 w) (n_8, t19) ⟨rfl, rfl, rfl, rfl, rfl, rfl⟩ hI ?_
        rintro ⟨n_8, t19⟩ ρ w ⟨e8, e19, e0, e7, e17, e18⟩ hI
        have h := hr n_8 t19 w hI
        clear hr
        obtain ⟨nx1, hnx⟩ : ∃ nx : Sl → Int → Sl → Int → Int → Int → World → Prop, nx = (fun counts_0' err_7' t17' t18' n_8' t19' w' => (counts_0' = counts_0 ∧ err_7' = err_7 ∧ t17' = t17 ∧ t18' = t18) ∧ I n_8' t19' w' ∧ μ n_8' t19' w' < μ n_8 t19 w) := ⟨_, rfl⟩
        rw [← hnx] at h
        refine wpc_norm (M := fun ρ w => asL (ρ 0) fun counts_0 => asI .i64 (ρ 7) fun err_7 => asL (ρ 17) fun t17 => asI .i64 (ρ 18) fun t18 => asI .i64 (ρ 8) fun n_8 => asI .i64 (ρ 19) fun t19 => nx1 counts_0 err_7 t17 t18 n_8 t19 w) ?_ (fun ρ w h => ?_)
        · skip
          refine reroot e0 (reroot (upd_other e7 rfl) (reroot (upd_other (upd_other e8 rfl) rfl) (reroot (upd_other (upd_other (upd_other e17 rfl) rfl) rfl) (reroot (upd_other (upd_other (upd_other (upd_other e18 rfl) rfl) rfl) rfl) (reroot (upd_other (upd_other (upd_other (upd_other (upd_other e19 rfl) rfl) rfl) rfl) rfl) ?_)))))
          exact pt_sound hmix _ (Eq.mp (by kernel_rfl) h)
        · skip
          obtain ⟨counts_0', e0', h⟩ := asL_el h
          obtain ⟨err_7', e7', h⟩ := asI_el h
          obtain ⟨t17', e17', h⟩ := asL_el h
          obtain ⟨t18', e18', h⟩ := asI_el h
          obtain ⟨n_8', e8', h⟩ := asI_el h
          obtain ⟨t19', e19', h⟩ := asI_el h
          rw [hnx] at h
          obtain ⟨hu, hI2, hμ⟩ := h
          obtain ⟨rfl, rfl, rfl, rfl⟩ := hu
          exact ⟨(n_8', t19'), ⟨e8', e19', e0', e7', e17', e18'⟩, hI2, hμ⟩
    · intro ρ w h
      obtain ⟨err_7, e7, h⟩ := asI_el h
      obtain ⟨n_8, e8, h⟩ := asI_el h
      refine reroot e7 (reroot (upd_other e8 rfl) ?_)
      exact pt_sound hmix _ (Eq.mp (by kernel_rfl) h)

end Go.Proofs.Ythdmmmfgjmmelaa
