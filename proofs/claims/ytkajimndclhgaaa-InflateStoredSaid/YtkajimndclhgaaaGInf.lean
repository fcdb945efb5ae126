/- PRINTED BY gen.py (own work): what calls come to, and the proofs of it. -/
import Derived.Test.YtkajimndclhgaaaVcJ
import Derived.Test.YtkajimndclhgaaaProg
namespace Go.Proofs.Ytkajimndclhgaaa
open Go Go.Proofs
set_option linter.unusedVariables false
set_option maxRecDepth 100000

/-! trove/inflate.Fixed -/
def inflate_Fixed.j3 (lit_0 : Sl) (dist_1 : Sl) (Q : Value → World → Prop) (w : World) : Prop :=
  Calls Try.prog 150 ⟨[.slice lit_0.a lit_0.len lit_0.cap]⟩ w fun e1 w2 =>
  ∃ r3 : Sl, e1 = .returned (.slice r3.a r3.len r3.cap) ∧
  Calls Try.prog 150 ⟨[.slice dist_1.a dist_1.len dist_1.cap]⟩ w2 fun e4 w5 =>
  ∃ r6 : Sl, e4 = .returned (.slice r6.a r6.len r6.cap) ∧
  Q (.tuple ⟨[.slice r3.a r3.len r3.cap, .slice r6.a r6.len r6.cap]⟩) w5

def inflate_Fixed.b1 (lit_0 : Sl) (dist_1 : Sl) (t26 : Int) (Q : Value → World → Prop) (nx1 : Sl → Sl → Int → World → Prop) (w : World) : Prop :=
  br (decide ((t26 : Int) < 32)) (
  lt (⟨World.heapSize w, 0, none⟩ : Addr) fun a7 =>
  lt (World.alloc w (.cells ⟨[.int .i64 5]⟩ 3)) fun w8 =>
  rdO w8 (some a7) (1 * 1) fun c9 =>
  apK Try.prog 3 w8 dist_1.a dist_1.len dist_1.cap 1 c9 fun s10 w11 =>
  lt (IntKind.i64.wrap (t26 + 1)) fun x12 =>
  nx1 lit_0 s10 x12 w11) (
  inflate_Fixed.j3 lit_0 dist_1 Q w)

def inflate_Fixed.l1 (lit_0 : Sl) (dist_1 : Sl) (t26 : Int) (Q : Value → World → Prop) (w : World) : Prop :=
  ∃ (I : Sl → Int → World → Prop) (μ : Sl → Int → World → Nat), I dist_1 t26 w ∧ ∀ dist_1 : Sl, ∀ t26 : Int, ∀ w : World, I dist_1 t26 w → inflate_Fixed.b1 lit_0 dist_1 t26 Q (fun lit_0' dist_1' t26' w' => (lit_0' = lit_0) ∧ I dist_1' t26' w' ∧ μ dist_1' t26' w' < μ dist_1 t26 w) w

def inflate_Fixed.j4 (lit_0 : Sl) (dist_1 : Sl) (t26 : Int) (Q : Value → World → Prop) (w : World) : Prop :=
  inflate_Fixed.l1 lit_0 dist_1 t26 Q w

def inflate_Fixed.j2 (lit_0 : Sl) (dist_1 : Sl) (Q : Value → World → Prop) (w : World) : Prop :=
  inflate_Fixed.j4 lit_0 dist_1 0 Q w

def inflate_Fixed.j7 (lit_0 : Sl) (dist_1 : Sl) (t4 : Int) (Q : Value → World → Prop) (nx2 : Sl → Sl → Int → World → Prop) (w : World) : Prop :=
  lt (IntKind.i64.wrap (t4 + 1)) fun x13 =>
  nx2 dist_1 lit_0 x13 w

def inflate_Fixed.j9 (lit_0 : Sl) (dist_1 : Sl) (n_3 : Int) (t4 : Int) (Q : Value → World → Prop) (nx2 : Sl → Sl → Int → World → Prop) (w : World) : Prop :=
  lt (⟨World.heapSize w, 0, none⟩ : Addr) fun a14 =>
  lt (World.alloc w (.cells ⟨[.int .i64 n_3]⟩ 3)) fun w15 =>
  rdO w15 (some a14) (1 * 1) fun c16 =>
  apK Try.prog 3 w15 lit_0.a lit_0.len lit_0.cap 1 c16 fun s17 w18 =>
  inflate_Fixed.j7 s17 dist_1 t4 Q nx2 w18

def inflate_Fixed.j10 (lit_0 : Sl) (dist_1 : Sl) (i_2 : Int) (n_3 : Int) (t4 : Int) (t7 : Bool) (Q : Value → World → Prop) (nx2 : Sl → Sl → Int → World → Prop) (w : World) : Prop :=
  br t7 (
  inflate_Fixed.j9 lit_0 dist_1 9 t4 Q nx2 w) (
  br (decide ((i_2 : Int) ≥ 256)) (
  br (decide ((i_2 : Int) < 280)) (
  inflate_Fixed.j9 lit_0 dist_1 7 t4 Q nx2 w) (
  inflate_Fixed.j9 lit_0 dist_1 n_3 t4 Q nx2 w)) (
  inflate_Fixed.j9 lit_0 dist_1 n_3 t4 Q nx2 w))

def inflate_Fixed.j8 (lit_0 : Sl) (dist_1 : Sl) (i_2 : Int) (n_3 : Int) (t4 : Int) (Q : Value → World → Prop) (nx2 : Sl → Sl → Int → World → Prop) (w : World) : Prop :=
  br (decide ((i_2 : Int) ≥ 144)) (
  inflate_Fixed.j10 lit_0 dist_1 i_2 n_3 t4 (decide ((i_2 : Int) < 256)) Q nx2 w) (
  inflate_Fixed.j10 lit_0 dist_1 i_2 n_3 t4 false Q nx2 w)

def inflate_Fixed.j6 (lit_0 : Sl) (dist_1 : Sl) (t4 : Int) (Q : Value → World → Prop) (nx2 : Sl → Sl → Int → World → Prop) (w : World) : Prop :=
  inflate_Fixed.j8 lit_0 dist_1 t4 8 t4 Q nx2 w

def inflate_Fixed.b2 (dist_1 : Sl) (lit_0 : Sl) (t4 : Int) (Q : Value → World → Prop) (nx2 : Sl → Sl → Int → World → Prop) (w : World) : Prop :=
  br (decide ((t4 : Int) < 288)) (
  inflate_Fixed.j6 lit_0 dist_1 t4 Q nx2 w) (
  inflate_Fixed.j2 lit_0 dist_1 Q w)

def inflate_Fixed.l2 (dist_1 : Sl) (lit_0 : Sl) (t4 : Int) (Q : Value → World → Prop) (w : World) : Prop :=
  ∃ (I : Sl → Int → World → Prop) (μ : Sl → Int → World → Nat), I lit_0 t4 w ∧ ∀ lit_0 : Sl, ∀ t4 : Int, ∀ w : World, I lit_0 t4 w → inflate_Fixed.b2 dist_1 lit_0 t4 Q (fun dist_1' lit_0' t4' w' => (dist_1' = dist_1) ∧ I lit_0' t4' w' ∧ μ lit_0' t4' w' < μ lit_0 t4 w) w

def inflate_Fixed.j5 (lit_0 : Sl) (dist_1 : Sl) (t4 : Int) (Q : Value → World → Prop) (w : World) : Prop :=
  inflate_Fixed.l2 dist_1 lit_0 t4 Q w

def inflate_Fixed.j1 (lit_0 : Sl) (dist_1 : Sl) (Q : Value → World → Prop) (w : World) : Prop :=
  inflate_Fixed.j5 lit_0 dist_1 0 Q w

def inflate_Fixed  (Q : Value → World → Prop) (w : World) : Prop :=
  inflate_Fixed.j1 ⟨none, 0, 0⟩ ⟨none, 0, 0⟩ Q w

theorem inflate_Fixed.ok  (Q : Value → World → Prop) (w : World) (h : inflate_Fixed  Q w) : Calls Try.prog 114 ⟨[]⟩ w (Ret Q) := by
  refine calls_of_wpc [.tmp 0, .tmp 1] Try.func114 rfl rfl rfl rfl ?_
  refine wpc_seq (fun ρ w => asL (ρ 0) fun lit_0 => asL (ρ 1) fun dist_1 => inflate_Fixed.j1 lit_0 dist_1 Q w) ?_ ?_
  · skip
    exact pt_sound hmix _ (Eq.mp (by kernel_rfl) h)
  · intro ρ w h
    obtain ⟨lit_0, e0, h⟩ := asL_el h
    obtain ⟨dist_1, e1, h⟩ := asL_el h
    refine reroot e0 (reroot (upd_other e1 rfl) ?_)
    refine wpc_seq (fun ρ w => asL (ρ 0) fun lit_0 => asL (ρ 1) fun dist_1 => inflate_Fixed.j2 lit_0 dist_1 Q w) ?_ ?_
    · skip
      refine wpc_seq (fun ρ w => asL (ρ 0) fun lit_0 => asL (ρ 1) fun dist_1 => asI .i64 (ρ 4) fun t4 => inflate_Fixed.j5 lit_0 dist_1 t4 Q w) ?_ ?_
      · skip
        exact pt_sound hmix _ (Eq.mp (by kernel_rfl) h)
      · intro ρ w h
        obtain ⟨lit_0, e0, h⟩ := asL_el h
        obtain ⟨dist_1, e1, h⟩ := asL_el h
        obtain ⟨t4, e4, h⟩ := asI_el h
        refine reroot e0 (reroot (upd_other e1 rfl) (reroot (upd_other (upd_other e4 rfl) rfl) ?_))
        refine wpc_block ?_
        obtain ⟨I, μ, hI, hr⟩ := h
        refine wpc_loopS (α := Sl × Int) (fun s ρ => ρ 0 = .slice s.1.a s.1.len s.1.cap ∧ ρ 4 = .int .i64 s.2 ∧ ρ 1 = .slice dist_1.a dist_1.len dist_1.cap) (fun s w => I s.1 s.2 w) (fun s w => μ s.1 s.2 w) (lit_0, t4) ⟨rfl, rfl, rfl⟩ hI ?_
        rintro ⟨lit_0, t4⟩ ρ w ⟨e0, e4, e1⟩ hI
        have h := hr lit_0 t4 w hI
        clear hr
        obtain ⟨nx2, hnx⟩ : ∃ nx : Sl → Sl → Int → World → Prop, nx = (fun dist_1' lit_0' t4' w' => (dist_1' = dist_1) ∧ I lit_0' t4' w' ∧ μ lit_0' t4' w' < μ lit_0 t4 w) := ⟨_, rfl⟩
        rw [← hnx] at h
        refine wpc_norm (M := fun ρ w => asL (ρ 1) fun dist_1 => asL (ρ 0) fun lit_0 => asI .i64 (ρ 4) fun t4 => nx2 dist_1 lit_0 t4 w) ?_ (fun ρ w h => ?_)
        · skip
          refine reroot e0 (reroot (upd_other e1 rfl) (reroot (upd_other (upd_other e4 rfl) rfl) ?_))
          refine wpc_pre2 hmix (fun ρ w => asL (ρ 0) fun lit_0 => asL (ρ 1) fun dist_1 => asI .i64 (ρ 4) fun t4 => inflate_Fixed.j6 lit_0 dist_1 t4 Q nx2 w) (Eq.mp (by kernel_rfl) h) ?_
          intro ρ w h
          obtain ⟨lit_0, e0, h⟩ := asL_el h
          obtain ⟨dist_1, e1, h⟩ := asL_el h
          obtain ⟨t4, e4, h⟩ := asI_el h
          refine reroot e0 (reroot (upd_other e1 rfl) (reroot (upd_other (upd_other e4 rfl) rfl) ?_))
          refine wpc_seq (fun ρ w => asL (ρ 0) fun lit_0 => asL (ρ 1) fun dist_1 => asI .i64 (ρ 4) fun t4 => inflate_Fixed.j7 lit_0 dist_1 t4 Q nx2 w) ?_ ?_
          · skip
            refine wpc_block ?_
            refine wpc_pre2 hmix (fun ρ w => asL (ρ 0) fun lit_0 => asL (ρ 1) fun dist_1 => asI .i64 (ρ 2) fun i_2 => asI .i64 (ρ 3) fun n_3 => asI .i64 (ρ 4) fun t4 => inflate_Fixed.j8 lit_0 dist_1 i_2 n_3 t4 Q nx2 w) (Eq.mp (by kernel_rfl) h) ?_
            intro ρ w h
            obtain ⟨lit_0, e0, h⟩ := asL_el h
            obtain ⟨dist_1, e1, h⟩ := asL_el h
            obtain ⟨i_2, e2, h⟩ := asI_el h
            obtain ⟨n_3, e3, h⟩ := asI_el h
            obtain ⟨t4, e4, h⟩ := asI_el h
            refine reroot e0 (reroot (upd_other e1 rfl) (reroot (upd_other (upd_other e2 rfl) rfl) (reroot (upd_other (upd_other (upd_other e3 rfl) rfl) rfl) (reroot (upd_other (upd_other (upd_other (upd_other e4 rfl) rfl) rfl) rfl) ?_))))
            refine wpc_seq (fun ρ w => asL (ρ 0) fun lit_0 => asL (ρ 1) fun dist_1 => asI .i64 (ρ 3) fun n_3 => asI .i64 (ρ 4) fun t4 => inflate_Fixed.j9 lit_0 dist_1 n_3 t4 Q nx2 w) ?_ ?_
            · skip
              refine wpc_block ?_
              refine wpc_seq (fun ρ w => asL (ρ 0) fun lit_0 => asL (ρ 1) fun dist_1 => asI .i64 (ρ 2) fun i_2 => asI .i64 (ρ 3) fun n_3 => asI .i64 (ρ 4) fun t4 => asB (ρ 7) fun t7 => inflate_Fixed.j10 lit_0 dist_1 i_2 n_3 t4 t7 Q nx2 w) ?_ ?_
              · skip
                exact pt_sound hmix _ (Eq.mp (by kernel_rfl) h)
              · intro ρ w h
                obtain ⟨lit_0, e0, h⟩ := asL_el h
                obtain ⟨dist_1, e1, h⟩ := asL_el h
                obtain ⟨i_2, e2, h⟩ := asI_el h
                obtain ⟨n_3, e3, h⟩ := asI_el h
                obtain ⟨t4, e4, h⟩ := asI_el h
                obtain ⟨t7, e7, h⟩ := asB_el h
                refine reroot e0 (reroot (upd_other e1 rfl) (reroot (upd_other (upd_other e2 rfl) rfl) (reroot (upd_other (upd_other (upd_other e3 rfl) rfl) rfl) (reroot (upd_other (upd_other (upd_other (upd_other e4 rfl) rfl) rfl) rfl) (reroot (upd_other (upd_other (upd_other (upd_other (upd_other e7 rfl) rfl) rfl) rfl) rfl) ?_)))))
                exact pt_sound hmix _ (Eq.mp (by kernel_rfl) h)
            · intro ρ w h
              obtain ⟨lit_0, e0, h⟩ := asL_el h
              obtain ⟨dist_1, e1, h⟩ := asL_el h
              obtain ⟨n_3, e3, h⟩ := asI_el h
              obtain ⟨t4, e4, h⟩ := asI_el h
              refine reroot e0 (reroot (upd_other e1 rfl) (reroot (upd_other (upd_other e3 rfl) rfl) (reroot (upd_other (upd_other (upd_other e4 rfl) rfl) rfl) ?_)))
              exact pt_sound hmix _ (Eq.mp (by kernel_rfl) h)
          · intro ρ w h
            obtain ⟨lit_0, e0, h⟩ := asL_el h
            obtain ⟨dist_1, e1, h⟩ := asL_el h
            obtain ⟨t4, e4, h⟩ := asI_el h
            refine reroot e0 (reroot (upd_other e1 rfl) (reroot (upd_other (upd_other e4 rfl) rfl) ?_))
            exact pt_sound hmix _ (Eq.mp (by kernel_rfl) h)
        · skip
          obtain ⟨dist_1', e1', h⟩ := asL_el h
          obtain ⟨lit_0', e0', h⟩ := asL_el h
          obtain ⟨t4', e4', h⟩ := asI_el h
          rw [hnx] at h
          obtain ⟨hu, hI2, hμ⟩ := h
          obtain rfl := hu
          exact ⟨(lit_0', t4'), ⟨e0', e4', e1'⟩, hI2, hμ⟩
    · intro ρ w h
      obtain ⟨lit_0, e0, h⟩ := asL_el h
      obtain ⟨dist_1, e1, h⟩ := asL_el h
      refine reroot e0 (reroot (upd_other e1 rfl) ?_)
      refine wpc_seq (fun ρ w => asL (ρ 0) fun lit_0 => asL (ρ 1) fun dist_1 => inflate_Fixed.j3 lit_0 dist_1 Q w) ?_ ?_
      · skip
        refine wpc_seq (fun ρ w => asL (ρ 0) fun lit_0 => asL (ρ 1) fun dist_1 => asI .i64 (ρ 26) fun t26 => inflate_Fixed.j4 lit_0 dist_1 t26 Q w) ?_ ?_
        · skip
          exact pt_sound hmix _ (Eq.mp (by kernel_rfl) h)
        · intro ρ w h
          obtain ⟨lit_0, e0, h⟩ := asL_el h
          obtain ⟨dist_1, e1, h⟩ := asL_el h
          obtain ⟨t26, e26, h⟩ := asI_el h
          refine reroot e0 (reroot (upd_other e1 rfl) (reroot (upd_other (upd_other e26 rfl) rfl) ?_))
          refine wpc_block ?_
          obtain ⟨I, μ, hI, hr⟩ := h
          refine wpc_loopS (α := Sl × Int) (fun s ρ => ρ 1 = .slice s.1.a s.1.len s.1.cap ∧ ρ 26 = .int .i64 s.2 ∧ ρ 0 = .slice lit_0.a lit_0.len lit_0.cap) (fun s w => I s.1 s.2 w) (fun s w => μ s.1 s.2 w) (dist_1, t26) ⟨rfl, rfl, rfl⟩ hI ?_
          rintro ⟨dist_1, t26⟩ ρ w ⟨e1, e26, e0⟩ hI
          have h := hr dist_1 t26 w hI
          clear hr
          obtain ⟨nx1, hnx⟩ : ∃ nx : Sl → Sl → Int → World → Prop, nx = (fun lit_0' dist_1' t26' w' => (lit_0' = lit_0) ∧ I dist_1' t26' w' ∧ μ dist_1' t26' w' < μ dist_1 t26 w) := ⟨_, rfl⟩
          rw [← hnx] at h
          refine wpc_norm (M := fun ρ w => asL (ρ 0) fun lit_0 => asL (ρ 1) fun dist_1 => asI .i64 (ρ 26) fun t26 => nx1 lit_0 dist_1 t26 w) ?_ (fun ρ w h => ?_)
          · skip
            refine reroot e0 (reroot (upd_other e1 rfl) (reroot (upd_other (upd_other e26 rfl) rfl) ?_))
            exact pt_sound hmix _ (Eq.mp (by kernel_rfl) h)
          · skip
            obtain ⟨lit_0', e0', h⟩ := asL_el h
            obtain ⟨dist_1', e1', h⟩ := asL_el h
            obtain ⟨t26', e26', h⟩ := asI_el h
            rw [hnx] at h
            obtain ⟨hu, hI2, hμ⟩ := h
            obtain rfl := hu
            exact ⟨(dist_1', t26'), ⟨e1', e26', e0'⟩, hI2, hμ⟩
      · intro ρ w h
        obtain ⟨lit_0, e0, h⟩ := asL_el h
        obtain ⟨dist_1, e1, h⟩ := asL_el h
        refine reroot e0 (reroot (upd_other e1 rfl) ?_)
        exact pt_sound hmix _ (Eq.mp (by kernel_rfl) h)

/-! trove/inflate.Length -/
def inflate_Length.j2 (k_5 : Int) (Q : Value → World → Prop) (w : World) : Prop :=
  (4 : Int) ≠ 0 ∧
  lt (IntKind.i64.wrap (Int.tdiv k_5 4)) fun x1 =>
  lt (IntKind.i64.wrap (x1 - 1)) fun x2 =>
  (4 : Int) ≠ 0 ∧
  lt (Int.tmod k_5 4) fun x3 =>
  lt (IntKind.i64.wrap (4 + x3)) fun x4 =>
  (0 : Int) ≤ x2 ∧
  lt (shlV .i64 x4 x2) fun x5 =>
  lt (IntKind.i64.wrap (3 + x5)) fun x6 =>
  Q (.tuple ⟨[.int .i64 x6, .int .i64 x2, .bool true]⟩) w

def inflate_Length.j3 (sym_0 : Int) (k_5 : Int) (t8 : Bool) (Q : Value → World → Prop) (w : World) : Prop :=
  br t8 (
  Q (.tuple ⟨[.int .i64 0, .int .i64 0, .bool false]⟩) w) (
  br ((sym_0 : Int) == 285) (
  Q (.tuple ⟨[.int .i64 258, .int .i64 0, .bool true]⟩) w) (
  br (decide ((k_5 : Int) < 8)) (
  lt (IntKind.i64.wrap (3 + k_5)) fun x7 =>
  Q (.tuple ⟨[.int .i64 x7, .int .i64 0, .bool true]⟩) w) (
  inflate_Length.j2 k_5 Q w)))

def inflate_Length.j1 (sym_0 : Int) (k_5 : Int) (Q : Value → World → Prop) (w : World) : Prop :=
  br (decide ((sym_0 : Int) < 257)) (
  inflate_Length.j3 sym_0 k_5 true Q w) (
  inflate_Length.j3 sym_0 k_5 (decide ((sym_0 : Int) > 285)) Q w)

def inflate_Length (sym_0 : Int) (Q : Value → World → Prop) (w : World) : Prop :=
  lt (IntKind.i64.wrap (sym_0 - 257)) fun x8 =>
  inflate_Length.j1 sym_0 x8 Q w

theorem inflate_Length.ok (sym_0 : Int) (Q : Value → World → Prop) (w : World) (h : inflate_Length sym_0 Q w) : Calls Try.prog 116 ⟨[.int .i64 sym_0]⟩ w (Ret Q) := by
  refine calls_of_wpc [.tmp 2, .tmp 3, .tmp 4] Try.func116 rfl rfl rfl rfl ?_
  refine wpc_pre2 hmix (fun ρ w => asI .i64 (ρ 0) fun sym_0 => asI .i64 (ρ 5) fun k_5 => inflate_Length.j1 sym_0 k_5 Q w) (Eq.mp (by kernel_rfl) h) ?_
  intro ρ w h
  obtain ⟨sym_0, e0, h⟩ := asI_el h
  obtain ⟨k_5, e5, h⟩ := asI_el h
  refine reroot e0 (reroot (upd_other e5 rfl) ?_)
  refine wpc_seq (fun ρ w => asI .i64 (ρ 5) fun k_5 => inflate_Length.j2 k_5 Q w) ?_ ?_
  · skip
    refine wpc_block ?_
    refine wpc_seq (fun ρ w => asI .i64 (ρ 0) fun sym_0 => asI .i64 (ρ 5) fun k_5 => asB (ρ 8) fun t8 => inflate_Length.j3 sym_0 k_5 t8 Q w) ?_ ?_
    · skip
      exact pt_sound hmix _ (Eq.mp (by kernel_rfl) h)
    · intro ρ w h
      obtain ⟨sym_0, e0, h⟩ := asI_el h
      obtain ⟨k_5, e5, h⟩ := asI_el h
      obtain ⟨t8, e8, h⟩ := asB_el h
      refine reroot e0 (reroot (upd_other e5 rfl) (reroot (upd_other (upd_other e8 rfl) rfl) ?_))
      exact pt_sound hmix _ (Eq.mp (by kernel_rfl) h)
  · intro ρ w h
    obtain ⟨k_5, e5, h⟩ := asI_el h
    refine reroot e5 ?_
    exact pt_sound hmix _ (Eq.mp (by kernel_rfl) h)

/-! trove/inflate.Distance -/
def inflate_Distance.j2 (sym_0 : Int) (Q : Value → World → Prop) (w : World) : Prop :=
  (2 : Int) ≠ 0 ∧
  lt (IntKind.i64.wrap (Int.tdiv sym_0 2)) fun x1 =>
  lt (IntKind.i64.wrap (x1 - 1)) fun x2 =>
  (2 : Int) ≠ 0 ∧
  lt (Int.tmod sym_0 2) fun x3 =>
  lt (IntKind.i64.wrap (2 + x3)) fun x4 =>
  (0 : Int) ≤ x2 ∧
  lt (shlV .i64 x4 x2) fun x5 =>
  lt (IntKind.i64.wrap (1 + x5)) fun x6 =>
  Q (.tuple ⟨[.int .i64 x6, .int .i64 x2, .bool true]⟩) w

def inflate_Distance.j3 (sym_0 : Int) (t5 : Bool) (Q : Value → World → Prop) (w : World) : Prop :=
  br t5 (
  Q (.tuple ⟨[.int .i64 0, .int .i64 0, .bool false]⟩) w) (
  br (decide ((sym_0 : Int) < 4)) (
  lt (IntKind.i64.wrap (1 + sym_0)) fun x7 =>
  Q (.tuple ⟨[.int .i64 x7, .int .i64 0, .bool true]⟩) w) (
  inflate_Distance.j2 sym_0 Q w))

def inflate_Distance.j1 (sym_0 : Int) (Q : Value → World → Prop) (w : World) : Prop :=
  br (decide ((sym_0 : Int) < 0)) (
  inflate_Distance.j3 sym_0 true Q w) (
  inflate_Distance.j3 sym_0 (decide ((sym_0 : Int) ≥ 30)) Q w)

def inflate_Distance (sym_0 : Int) (Q : Value → World → Prop) (w : World) : Prop :=
  inflate_Distance.j1 sym_0 Q w

theorem inflate_Distance.ok (sym_0 : Int) (Q : Value → World → Prop) (w : World) (h : inflate_Distance sym_0 Q w) : Calls Try.prog 118 ⟨[.int .i64 sym_0]⟩ w (Ret Q) := by
  refine calls_of_wpc [.tmp 2, .tmp 3, .tmp 4] Try.func118 rfl rfl rfl rfl ?_
  refine wpc_seq (fun ρ w => asI .i64 (ρ 0) fun sym_0 => inflate_Distance.j1 sym_0 Q w) ?_ ?_
  · skip
    exact pt_sound hmix _ (Eq.mp (by kernel_rfl) h)
  · intro ρ w h
    obtain ⟨sym_0, e0, h⟩ := asI_el h
    refine reroot e0 ?_
    refine wpc_seq (fun ρ w => asI .i64 (ρ 0) fun sym_0 => inflate_Distance.j2 sym_0 Q w) ?_ ?_
    · skip
      refine wpc_block ?_
      refine wpc_seq (fun ρ w => asI .i64 (ρ 0) fun sym_0 => asB (ρ 5) fun t5 => inflate_Distance.j3 sym_0 t5 Q w) ?_ ?_
      · skip
        exact pt_sound hmix _ (Eq.mp (by kernel_rfl) h)
      · intro ρ w h
        obtain ⟨sym_0, e0, h⟩ := asI_el h
        obtain ⟨t5, e5, h⟩ := asB_el h
        refine reroot e0 (reroot (upd_other e5 rfl) ?_)
        exact pt_sound hmix _ (Eq.mp (by kernel_rfl) h)
    · intro ρ w h
      obtain ⟨sym_0, e0, h⟩ := asI_el h
      refine reroot e0 ?_
      exact pt_sound hmix _ (Eq.mp (by kernel_rfl) h)

/-! (*trove/inflate.state).fail -/
def inflate_state_fail (s_0 : (Option Addr)) (err_1 : Int) (Q : Value → World → Prop) (w : World) : Prop :=
  nz s_0 fun a1 =>
  ldI .i64 w (Addr.add a1 3) fun x2 =>
  br ((x2 : Int) == 0) (
  nz s_0 fun a3 =>
  st w (Addr.add a3 3) (.int .i64 err_1) fun w4 =>
  Q (.tuple ⟨[]⟩) w4) (
  Q (.tuple ⟨[]⟩) w)

theorem inflate_state_fail.ok (s_0 : (Option Addr)) (err_1 : Int) (Q : Value → World → Prop) (w : World) (h : inflate_state_fail s_0 err_1 Q w) : Calls Try.prog 171 ⟨[.pointer s_0, .int .i64 err_1]⟩ w (Ret Q) := by
  refine calls_of_wpc [] Try.func171 rfl rfl rfl rfl ?_
  exact pt_sound hmix _ (Eq.mp (by kernel_rfl) h)

/-! (*trove/inflate.state).get -/
def inflate_state_get (s_0 : (Option Addr)) (n_1 : Int) (Q : Value → World → Prop) (w : World) : Prop :=
  nz s_0 fun a1 =>
  ldI .i64 w (Addr.add a1 3) fun x2 =>
  br ((x2 : Int) != 0) (
  Q (.int .i64 0) w) (
  nz s_0 fun a3 =>
  ldP w (Addr.add a3 0) fun x4 =>
  Calls Try.prog 38 ⟨[.pointer x4, .int .i64 n_1]⟩ w fun e5 w6 =>
  ∃ r7 : Int, ∃ r8 : Bool, e5 = .returned (.tuple ⟨[.int .i64 r7, .bool r8]⟩) ∧
  br (!r8) (
  Calls Try.prog 171 ⟨[.pointer s_0, .int .i64 3]⟩ w6 fun e9 w10 =>
  e9 = .returned (.tuple ⟨[]⟩) ∧
  Q (.int .i64 r7) w10) (
  Q (.int .i64 r7) w6))

theorem inflate_state_get.ok (s_0 : (Option Addr)) (n_1 : Int) (Q : Value → World → Prop) (w : World) (h : inflate_state_get s_0 n_1 Q w) : Calls Try.prog 167 ⟨[.pointer s_0, .int .i64 n_1]⟩ w (Ret Q) := by
  refine calls_of_wpc [.tmp 4] Try.func167 rfl rfl rfl rfl ?_
  exact pt_sound hmix _ (Eq.mp (by kernel_rfl) h)

/-! (*trove/inflate.state).put -/
def inflate_state_put (s_0 : (Option Addr)) (b_1 : Int) (Q : Value → World → Prop) (w : World) : Prop :=
  nz s_0 fun a1 =>
  ldI .i64 w (Addr.add a1 3) fun x2 =>
  br ((x2 : Int) != 0) (
  Q (.tuple ⟨[]⟩) w) (
  lt (World.drew w) fun w3 =>
  nz s_0 fun a4 =>
  ldL w3 (Addr.add a4 1) fun x5 =>
  nz s_0 fun a6 =>
  ldI .i64 w3 (Addr.add a6 2) fun x7 =>
  br (decide ((((x5.len : Nat) : Int) : Int) ≥ x7)) (
  Calls Try.prog 171 ⟨[.pointer s_0, .int .i64 5]⟩ w3 fun e8 w9 =>
  e8 = .returned (.tuple ⟨[]⟩) ∧
  Q (.tuple ⟨[]⟩) w9) (
  nz s_0 fun a10 =>
  ldL w3 (Addr.add a10 1) fun x11 =>
  lt (⟨World.heapSize w3, 0, none⟩ : Addr) fun a12 =>
  lt (World.alloc w3 (.cells ⟨[.int .u8 b_1]⟩ 5)) fun w13 =>
  rdO w13 (some a12) (1 * 1) fun c14 =>
  apK Try.prog 5 w13 x11.a x11.len x11.cap 1 c14 fun s15 w16 =>
  nz s_0 fun a17 =>
  st w16 (Addr.add a17 1) (.slice s15.a s15.len s15.cap) fun w18 =>
  Q (.tuple ⟨[]⟩) w18))

theorem inflate_state_put.ok (s_0 : (Option Addr)) (b_1 : Int) (Q : Value → World → Prop) (w : World) (h : inflate_state_put s_0 b_1 Q w) : Calls Try.prog 178 ⟨[.pointer s_0, .int .u8 b_1]⟩ w (Ret Q) := by
  refine calls_of_wpc [] Try.func178 rfl rfl rfl rfl ?_
  exact pt_sound hmix _ (Eq.mp (by kernel_rfl) h)

/-! (*trove/inflate.state).stored -/
def inflate_state_stored.b1 (s_0 : (Option Addr)) (t41 : Int) (t42 : Int) (Q : Value → World → Prop) (nx1 : (Option Addr) → Int → Int → World → Prop) (w : World) : Prop :=
  br (decide ((t42 : Int) < t41)) (
  Calls Try.prog 167 ⟨[.pointer s_0, .int .i64 8]⟩ w fun e1 w2 =>
  ∃ r3 : Int, e1 = .returned (.int .i64 r3) ∧
  lt (IntKind.u8.wrap r3) fun x4 =>
  Calls Try.prog 178 ⟨[.pointer s_0, .int .u8 x4]⟩ w2 fun e5 w6 =>
  e5 = .returned (.tuple ⟨[]⟩) ∧
  lt (IntKind.i64.wrap (t42 + 1)) fun x7 =>
  nx1 s_0 t41 x7 w6) (
  Q (.tuple ⟨[]⟩) w)

def inflate_state_stored.l1 (s_0 : (Option Addr)) (t41 : Int) (t42 : Int) (Q : Value → World → Prop) (w : World) : Prop :=
  ∃ (I : Int → World → Prop) (μ : Int → World → Nat), I t42 w ∧ ∀ t42 : Int, ∀ w : World, I t42 w → inflate_state_stored.b1 s_0 t41 t42 Q (fun s_0' t41' t42' w' => (s_0' = s_0 ∧ t41' = t41) ∧ I t42' w' ∧ μ t42' w' < μ t42 w) w

def inflate_state_stored.j2 (s_0 : (Option Addr)) (t41 : Int) (t42 : Int) (Q : Value → World → Prop) (w : World) : Prop :=
  inflate_state_stored.l1 s_0 t41 t42 Q w

def inflate_state_stored.j1 (s_0 : (Option Addr)) (n_2 : Int) (m_3 : Int) (Q : Value → World → Prop) (w : World) : Prop :=
  nz s_0 fun a8 =>
  ldI .i64 w (Addr.add a8 3) fun x9 =>
  br ((x9 : Int) != 0) (
  Q (.tuple ⟨[]⟩) w) (
  lt (xorV .i64 n_2 m_3) fun x10 =>
  br ((x10 : Int) != 65535) (
  Calls Try.prog 171 ⟨[.pointer s_0, .int .i64 2]⟩ w fun e11 w12 =>
  e11 = .returned (.tuple ⟨[]⟩) ∧
  Q (.tuple ⟨[]⟩) w12) (
  lt (World.drew w) fun w13 =>
  nz s_0 fun a14 =>
  ldI .i64 w13 (Addr.add a14 2) fun x15 =>
  nz s_0 fun a16 =>
  ldL w13 (Addr.add a16 1) fun x17 =>
  lt (IntKind.i64.wrap (x15 - ((x17.len : Nat) : Int))) fun x18 =>
  br (decide ((n_2 : Int) > x18)) (
  Calls Try.prog 171 ⟨[.pointer s_0, .int .i64 5]⟩ w13 fun e19 w20 =>
  e19 = .returned (.tuple ⟨[]⟩) ∧
  Q (.tuple ⟨[]⟩) w20) (
  inflate_state_stored.j2 s_0 n_2 0 Q w13)))

def inflate_state_stored (s_0 : (Option Addr)) (Q : Value → World → Prop) (w : World) : Prop :=
  nz s_0 fun a21 =>
  ldP w (Addr.add a21 0) fun x22 =>
  Calls Try.prog 50 ⟨[.pointer x22]⟩ w fun e23 w24 =>
  e23 = .returned (.tuple ⟨[]⟩) ∧
  Calls Try.prog 167 ⟨[.pointer s_0, .int .i64 16]⟩ w24 fun e25 w26 =>
  ∃ r27 : Int, e25 = .returned (.int .i64 r27) ∧
  Calls Try.prog 167 ⟨[.pointer s_0, .int .i64 16]⟩ w26 fun e28 w29 =>
  ∃ r30 : Int, e28 = .returned (.int .i64 r30) ∧
  inflate_state_stored.j1 s_0 r27 r30 Q w29

theorem inflate_state_stored.ok (s_0 : (Option Addr)) (Q : Value → World → Prop) (w : World) (h : inflate_state_stored s_0 Q w) : Calls Try.prog 168 ⟨[.pointer s_0]⟩ w (Ret Q) := by
  refine calls_of_wpc [] Try.func168 rfl rfl rfl rfl ?_
  refine wpc_pre2 hmix (fun ρ w => asP (ρ 0) fun s_0 => asI .i64 (ρ 2) fun n_2 => asI .i64 (ρ 3) fun m_3 => inflate_state_stored.j1 s_0 n_2 m_3 Q w) (Eq.mp (by kernel_rfl) h) ?_
  intro ρ w h
  obtain ⟨s_0, e0, h⟩ := asP_el h
  obtain ⟨n_2, e2, h⟩ := asI_el h
  obtain ⟨m_3, e3, h⟩ := asI_el h
  refine reroot e0 (reroot (upd_other e2 rfl) (reroot (upd_other (upd_other e3 rfl) rfl) ?_))
  refine wpc_pre2 hmix (fun ρ w => asP (ρ 0) fun s_0 => asI .i64 (ρ 41) fun t41 => asI .i64 (ρ 42) fun t42 => inflate_state_stored.j2 s_0 t41 t42 Q w) (Eq.mp (by kernel_rfl) h) ?_
  intro ρ w h
  obtain ⟨s_0, e0, h⟩ := asP_el h
  obtain ⟨t41, e41, h⟩ := asI_el h
  obtain ⟨t42, e42, h⟩ := asI_el h
  refine reroot e0 (reroot (upd_other e41 rfl) (reroot (upd_other (upd_other e42 rfl) rfl) ?_))
  refine wpc_block ?_
  obtain ⟨I, μ, hI, hr⟩ := h
  refine wpc_loopS (α := Int) (fun s ρ => ρ 42 = .int .i64 s ∧ ρ 0 = .pointer s_0 ∧ ρ 41 = .int .i64 t41) (fun s w => I s w) (fun s w => μ s w) t42 ⟨rfl, rfl, rfl⟩ hI ?_
  rintro t42 ρ w ⟨e42, e0, e41⟩ hI
  have h := hr t42 w hI
  clear hr
  obtain ⟨nx1, hnx⟩ : ∃ nx : (Option Addr) → Int → Int → World → Prop, nx = (fun s_0' t41' t42' w' => (s_0' = s_0 ∧ t41' = t41) ∧ I t42' w' ∧ μ t42' w' < μ t42 w) := ⟨_, rfl⟩
  rw [← hnx] at h
  refine wpc_norm (M := fun ρ w => asP (ρ 0) fun s_0 => asI .i64 (ρ 41) fun t41 => asI .i64 (ρ 42) fun t42 => nx1 s_0 t41 t42 w) ?_ (fun ρ w h => ?_)
  · skip
    refine reroot e0 (reroot (upd_other e41 rfl) (reroot (upd_other (upd_other e42 rfl) rfl) ?_))
    exact pt_sound hmix _ (Eq.mp (by kernel_rfl) h)
  · skip
    obtain ⟨s_0', e0', h⟩ := asP_el h
    obtain ⟨t41', e41', h⟩ := asI_el h
    obtain ⟨t42', e42', h⟩ := asI_el h
    rw [hnx] at h
    obtain ⟨hu, hI2, hμ⟩ := h
    obtain ⟨rfl, rfl⟩ := hu
    exact ⟨t42', ⟨e42', e0', e41'⟩, hI2, hμ⟩

/-! (*trove/inflate.state).code -/
def inflate_state_code (s_0 : (Option Addr)) (lens_1 : Sl) (half_2 : Bool) (Q : Value → World → Prop) (w : World) : Prop :=
  nz s_0 fun a1 =>
  ldI .i64 w (Addr.add a1 3) fun x2 =>
  br ((x2 : Int) != 0) (
  Q (.pointer none) w) (
  Calls Try.prog 99 ⟨[.slice lens_1.a lens_1.len lens_1.cap, .bool half_2]⟩ w fun e3 w4 =>
  ∃ r5 : (Option Addr), ∃ r6 : Int, e3 = .returned (.tuple ⟨[.pointer r5, .int .i64 r6]⟩) ∧
  br ((r6 : Int) != 0) (
  Calls Try.prog 171 ⟨[.pointer s_0, .int .i64 2]⟩ w4 fun e7 w8 =>
  e7 = .returned (.tuple ⟨[]⟩) ∧
  Q (.pointer r5) w8) (
  Q (.pointer r5) w4))

theorem inflate_state_code.ok (s_0 : (Option Addr)) (lens_1 : Sl) (half_2 : Bool) (Q : Value → World → Prop) (w : World) (h : inflate_state_code s_0 lens_1 half_2 Q w) : Calls Try.prog 179 ⟨[.pointer s_0, .slice lens_1.a lens_1.len lens_1.cap, .bool half_2]⟩ w (Ret Q) := by
  refine calls_of_wpc [.tmp 6] Try.func179 rfl rfl rfl rfl ?_
  exact pt_sound hmix _ (Eq.mp (by kernel_rfl) h)

/-! (*trove/inflate.state).sym -/
def inflate_state_sym (s_0 : (Option Addr)) (cap1 : (Option Addr)) (Q : Value → World → Prop) (w : World) : Prop :=
  nz s_0 fun a1 =>
  ldI .i64 w (Addr.add a1 3) fun x2 =>
  br ((x2 : Int) != 0) (
  Q (.int .i64 0) w) (
  nz s_0 fun a3 =>
  ldP w (Addr.add a3 0) fun x4 =>
  Calls Try.prog 102 ⟨[.pointer cap1, .pointer x4]⟩ w fun e5 w6 =>
  ∃ r7 : Int, ∃ r8 : Int, e5 = .returned (.tuple ⟨[.int .i64 r7, .int .i64 r8]⟩) ∧
  Calls Try.prog 171 ⟨[.pointer s_0, .int .i64 r8]⟩ w6 fun e9 w10 =>
  e9 = .returned (.tuple ⟨[]⟩) ∧
  Q (.int .i64 r7) w10)

theorem inflate_state_sym.ok (s_0 : (Option Addr)) (cap1 : (Option Addr)) (Q : Value → World → Prop) (w : World) (h : inflate_state_sym s_0 cap1 Q w) : Calls Try.prog 180 ⟨[.pointer s_0, .func (.func 102) ⟨[.pointer cap1]⟩ ⟨[]⟩]⟩ w (Ret Q) := by
  refine calls_of_wpc [.tmp 4] Try.func180 rfl rfl rfl rfl ?_
  exact pt_sound hmix _ (Eq.mp (by kernel_rfl) h)

/-! (*trove/inflate.state).behind -/
def inflate_state_behind.b1 (d_0 : (Option Addr)) (t6 : Int) (t9 : Int) (t11 : Int) (Q : Value → World → Prop) (nx1 : (Option Addr) → Int → Int → Int → World → Prop) (w : World) : Prop :=
  br (decide ((t11 : Int) < t6)) (
  nz d_0 fun a1 =>
  ldI .i64 w (Addr.add a1 3) fun x2 =>
  br ((x2 : Int) == 0) (
  lt (World.drew w) fun w3 =>
  nz d_0 fun a4 =>
  ldL w3 (Addr.add a4 1) fun x5 =>
  nz d_0 fun a6 =>
  ldL w3 (Addr.add a6 1) fun x7 =>
  lt (IntKind.i64.wrap (((x7.len : Nat) : Int) - t9)) fun x8 =>
  ixS x5.a x5.len x8 1 fun a9 =>
  ldI .u8 w3 a9 fun x10 =>
  Calls Try.prog 178 ⟨[.pointer d_0, .int .u8 x10]⟩ w3 fun e11 w12 =>
  e11 = .returned (.tuple ⟨[]⟩) ∧
  lt (IntKind.i64.wrap (t11 + 1)) fun x13 =>
  nx1 d_0 t6 t9 x13 w12) (
  Q (.tuple ⟨[]⟩) w)) (
  Q (.tuple ⟨[]⟩) w)

def inflate_state_behind.l1 (d_0 : (Option Addr)) (t6 : Int) (t9 : Int) (t11 : Int) (Q : Value → World → Prop) (w : World) : Prop :=
  ∃ (I : Int → World → Prop) (μ : Int → World → Nat), I t11 w ∧ ∀ t11 : Int, ∀ w : World, I t11 w → inflate_state_behind.b1 d_0 t6 t9 t11 Q (fun d_0' t6' t9' t11' w' => (d_0' = d_0 ∧ t6' = t6 ∧ t9' = t9) ∧ I t11' w' ∧ μ t11' w' < μ t11 w) w

def inflate_state_behind.j5 (d_0 : (Option Addr)) (t6 : Int) (t9 : Int) (t11 : Int) (Q : Value → World → Prop) (w : World) : Prop :=
  inflate_state_behind.l1 d_0 t6 t9 t11 Q w

def inflate_state_behind.j4 (d_0 : (Option Addr)) (t6 : Int) (t9 : Int) (Q : Value → World → Prop) (w : World) : Prop :=
  inflate_state_behind.j5 d_0 t6 t9 0 Q w

def inflate_state_behind.j3 (d_0 : (Option Addr)) (t6 : Int) (t9 : Int) (t10 : Int) (Q : Value → World → Prop) (w : World) : Prop :=
  Calls Try.prog 167 ⟨[.pointer d_0, .int .i64 t10]⟩ w fun e14 w15 =>
  ∃ r16 : Int, e14 = .returned (.int .i64 r16) ∧
  lt (IntKind.i64.wrap (t9 + r16)) fun x17 =>
  nz d_0 fun a18 =>
  ldL w15 (Addr.add a18 1) fun x19 =>
  br (decide ((x17 : Int) > ((x19.len : Nat) : Int))) (
  Calls Try.prog 171 ⟨[.pointer d_0, .int .i64 2]⟩ w15 fun e20 w21 =>
  e20 = .returned (.tuple ⟨[]⟩) ∧
  inflate_state_behind.j4 d_0 t6 x17 Q w21) (
  inflate_state_behind.j4 d_0 t6 x17 Q w15)

def inflate_state_behind.j2 (d_0 : (Option Addr)) (t2 : (Option Addr)) (t6 : Int) (Q : Value → World → Prop) (w : World) : Prop :=
  Calls Try.prog 180 ⟨[.pointer d_0, .func (.func 102) ⟨[.pointer t2]⟩ ⟨[]⟩]⟩ w fun e22 w23 =>
  ∃ r24 : Int, e22 = .returned (.int .i64 r24) ∧
  Calls Try.prog 118 ⟨[.int .i64 r24]⟩ w23 fun e25 w26 =>
  ∃ r27 : Int, ∃ r28 : Int, ∃ r29 : Bool, e25 = .returned (.tuple ⟨[.int .i64 r27, .int .i64 r28, .bool r29]⟩) ∧
  br (!r29) (
  Calls Try.prog 171 ⟨[.pointer d_0, .int .i64 2]⟩ w26 fun e30 w31 =>
  e30 = .returned (.tuple ⟨[]⟩) ∧
  inflate_state_behind.j3 d_0 t6 r27 r28 Q w31) (
  inflate_state_behind.j3 d_0 t6 r27 r28 Q w26)

def inflate_state_behind.j1 (d_0 : (Option Addr)) (t2 : (Option Addr)) (t6 : Int) (t7 : Int) (Q : Value → World → Prop) (w : World) : Prop :=
  Calls Try.prog 167 ⟨[.pointer d_0, .int .i64 t7]⟩ w fun e32 w33 =>
  ∃ r34 : Int, e32 = .returned (.int .i64 r34) ∧
  lt (IntKind.i64.wrap (t6 + r34)) fun x35 =>
  inflate_state_behind.j2 d_0 t2 x35 Q w33

def inflate_state_behind (d_0 : (Option Addr)) (i_1 : Int) (cap2 : (Option Addr)) (Q : Value → World → Prop) (w : World) : Prop :=
  Calls Try.prog 116 ⟨[.int .i64 i_1]⟩ w fun e36 w37 =>
  ∃ r38 : Int, ∃ r39 : Int, ∃ r40 : Bool, e36 = .returned (.tuple ⟨[.int .i64 r38, .int .i64 r39, .bool r40]⟩) ∧
  br (!r40) (
  Calls Try.prog 171 ⟨[.pointer d_0, .int .i64 2]⟩ w37 fun e41 w42 =>
  e41 = .returned (.tuple ⟨[]⟩) ∧
  inflate_state_behind.j1 d_0 cap2 r38 r39 Q w42) (
  inflate_state_behind.j1 d_0 cap2 r38 r39 Q w37)

theorem inflate_state_behind.ok (d_0 : (Option Addr)) (i_1 : Int) (cap2 : (Option Addr)) (Q : Value → World → Prop) (w : World) (h : inflate_state_behind d_0 i_1 cap2 Q w) : Calls Try.prog 181 ⟨[.pointer d_0, .int .i64 i_1, .func (.func 102) ⟨[.pointer cap2]⟩ ⟨[]⟩]⟩ w (Ret Q) := by
  refine calls_of_wpc [] Try.func181 rfl rfl rfl rfl ?_
  refine wpc_pre2 hmix (fun ρ w => asP (ρ 0) fun d_0 => asC1 102 (ρ 2) fun t2 => asI .i64 (ρ 6) fun t6 => asI .i64 (ρ 7) fun t7 => inflate_state_behind.j1 d_0 t2 t6 t7 Q w) (Eq.mp (by kernel_rfl) h) ?_
  intro ρ w h
  obtain ⟨d_0, e0, h⟩ := asP_el h
  obtain ⟨t2, e2, h⟩ := asC1_el h
  obtain ⟨t6, e6, h⟩ := asI_el h
  obtain ⟨t7, e7, h⟩ := asI_el h
  refine reroot e0 (reroot (upd_other e2 rfl) (reroot (upd_other (upd_other e6 rfl) rfl) (reroot (upd_other (upd_other (upd_other e7 rfl) rfl) rfl) ?_)))
  refine wpc_seq (fun ρ w => asP (ρ 0) fun d_0 => asC1 102 (ρ 2) fun t2 => asI .i64 (ρ 6) fun t6 => inflate_state_behind.j2 d_0 t2 t6 Q w) ?_ ?_
  · skip
    exact pt_sound hmix _ (Eq.mp (by kernel_rfl) h)
  · intro ρ w h
    obtain ⟨d_0, e0, h⟩ := asP_el h
    obtain ⟨t2, e2, h⟩ := asC1_el h
    obtain ⟨t6, e6, h⟩ := asI_el h
    refine reroot e0 (reroot (upd_other e2 rfl) (reroot (upd_other (upd_other e6 rfl) rfl) ?_))
    refine wpc_pre2 hmix (fun ρ w => asP (ρ 0) fun d_0 => asI .i64 (ρ 6) fun t6 => asI .i64 (ρ 9) fun t9 => asI .i64 (ρ 10) fun t10 => inflate_state_behind.j3 d_0 t6 t9 t10 Q w) (Eq.mp (by kernel_rfl) h) ?_
    intro ρ w h
    obtain ⟨d_0, e0, h⟩ := asP_el h
    obtain ⟨t6, e6, h⟩ := asI_el h
    obtain ⟨t9, e9, h⟩ := asI_el h
    obtain ⟨t10, e10, h⟩ := asI_el h
    refine reroot e0 (reroot (upd_other e6 rfl) (reroot (upd_other (upd_other e9 rfl) rfl) (reroot (upd_other (upd_other (upd_other e10 rfl) rfl) rfl) ?_)))
    refine wpc_pre2 hmix (fun ρ w => asP (ρ 0) fun d_0 => asI .i64 (ρ 6) fun t6 => asI .i64 (ρ 9) fun t9 => inflate_state_behind.j4 d_0 t6 t9 Q w) (Eq.mp (by kernel_rfl) h) ?_
    intro ρ w h
    obtain ⟨d_0, e0, h⟩ := asP_el h
    obtain ⟨t6, e6, h⟩ := asI_el h
    obtain ⟨t9, e9, h⟩ := asI_el h
    refine reroot e0 (reroot (upd_other e6 rfl) (reroot (upd_other (upd_other e9 rfl) rfl) ?_))
    refine wpc_seq (fun ρ w => asP (ρ 0) fun d_0 => asI .i64 (ρ 6) fun t6 => asI .i64 (ρ 9) fun t9 => asI .i64 (ρ 11) fun t11 => inflate_state_behind.j5 d_0 t6 t9 t11 Q w) ?_ ?_
    · skip
      exact pt_sound hmix _ (Eq.mp (by kernel_rfl) h)
    · intro ρ w h
      obtain ⟨d_0, e0, h⟩ := asP_el h
      obtain ⟨t6, e6, h⟩ := asI_el h
      obtain ⟨t9, e9, h⟩ := asI_el h
      obtain ⟨t11, e11, h⟩ := asI_el h
      refine reroot e0 (reroot (upd_other e6 rfl) (reroot (upd_other (upd_other e9 rfl) rfl) (reroot (upd_other (upd_other (upd_other e11 rfl) rfl) rfl) ?_)))
      refine wpc_block ?_
      obtain ⟨I, μ, hI, hr⟩ := h
      refine wpc_loopS (α := Int) (fun s ρ => ρ 11 = .int .i64 s ∧ ρ 0 = .pointer d_0 ∧ ρ 6 = .int .i64 t6 ∧ ρ 9 = .int .i64 t9) (fun s w => I s w) (fun s w => μ s w) t11 ⟨rfl, rfl, rfl, rfl⟩ hI ?_
      rintro t11 ρ w ⟨e11, e0, e6, e9⟩ hI
      have h := hr t11 w hI
      clear hr
      obtain ⟨nx1, hnx⟩ : ∃ nx : (Option Addr) → Int → Int → Int → World → Prop, nx = (fun d_0' t6' t9' t11' w' => (d_0' = d_0 ∧ t6' = t6 ∧ t9' = t9) ∧ I t11' w' ∧ μ t11' w' < μ t11 w) := ⟨_, rfl⟩
      rw [← hnx] at h
      refine wpc_norm (M := fun ρ w => asP (ρ 0) fun d_0 => asI .i64 (ρ 6) fun t6 => asI .i64 (ρ 9) fun t9 => asI .i64 (ρ 11) fun t11 => nx1 d_0 t6 t9 t11 w) ?_ (fun ρ w h => ?_)
      · skip
        refine reroot e0 (reroot (upd_other e6 rfl) (reroot (upd_other (upd_other e9 rfl) rfl) (reroot (upd_other (upd_other (upd_other e11 rfl) rfl) rfl) ?_)))
        exact pt_sound hmix _ (Eq.mp (by kernel_rfl) h)
      · skip
        obtain ⟨d_0', e0', h⟩ := asP_el h
        obtain ⟨t6', e6', h⟩ := asI_el h
        obtain ⟨t9', e9', h⟩ := asI_el h
        obtain ⟨t11', e11', h⟩ := asI_el h
        rw [hnx] at h
        obtain ⟨hu, hI2, hμ⟩ := h
        obtain ⟨rfl, rfl, rfl⟩ := hu
        exact ⟨t11', ⟨e11', e0', e6', e9'⟩, hI2, hμ⟩

/-! (*trove/inflate.state).coded -/
def inflate_state_coded.j5 (s_0 : (Option Addr)) (a_6 : (Option Addr)) (b_7 : (Option Addr)) (v_8 : Int) (t47 : Bool) (Q : Value → World → Prop) (nx1 : (Option Addr) → (Option Addr) → (Option Addr) → World → Prop) (w : World) : Prop :=
  br t47 (
  Q (.tuple ⟨[]⟩) w) (
  br (decide ((v_8 : Int) < 256)) (
  lt (IntKind.u8.wrap v_8) fun x1 =>
  Calls Try.prog 178 ⟨[.pointer s_0, .int .u8 x1]⟩ w fun e2 w3 =>
  e2 = .returned (.tuple ⟨[]⟩) ∧
  nx1 s_0 a_6 b_7 w3) (
  Calls Try.prog 181 ⟨[.pointer s_0, .int .i64 v_8, .func (.func 102) ⟨[.pointer b_7]⟩ ⟨[]⟩]⟩ w fun e4 w5 =>
  e4 = .returned (.tuple ⟨[]⟩) ∧
  nx1 s_0 a_6 b_7 w5))

def inflate_state_coded.j4 (s_0 : (Option Addr)) (a_6 : (Option Addr)) (b_7 : (Option Addr)) (v_8 : Int) (Q : Value → World → Prop) (nx1 : (Option Addr) → (Option Addr) → (Option Addr) → World → Prop) (w : World) : Prop :=
  nz s_0 fun a6 =>
  ldI .i64 w (Addr.add a6 3) fun x7 =>
  br ((x7 : Int) != 0) (
  inflate_state_coded.j5 s_0 a_6 b_7 v_8 true Q nx1 w) (
  inflate_state_coded.j5 s_0 a_6 b_7 v_8 ((v_8 : Int) == 256) Q nx1 w)

def inflate_state_coded.j3 (s_0 : (Option Addr)) (a_6 : (Option Addr)) (b_7 : (Option Addr)) (Q : Value → World → Prop) (nx1 : (Option Addr) → (Option Addr) → (Option Addr) → World → Prop) (w : World) : Prop :=
  Calls Try.prog 180 ⟨[.pointer s_0, .func (.func 102) ⟨[.pointer a_6]⟩ ⟨[]⟩]⟩ w fun e8 w9 =>
  ∃ r10 : Int, e8 = .returned (.int .i64 r10) ∧
  inflate_state_coded.j4 s_0 a_6 b_7 r10 Q nx1 w9

def inflate_state_coded.b1 (s_0 : (Option Addr)) (a_6 : (Option Addr)) (b_7 : (Option Addr)) (Q : Value → World → Prop) (nx1 : (Option Addr) → (Option Addr) → (Option Addr) → World → Prop) (w : World) : Prop :=
  nz s_0 fun a11 =>
  ldI .i64 w (Addr.add a11 3) fun x12 =>
  br ((x12 : Int) == 0) (
  inflate_state_coded.j3 s_0 a_6 b_7 Q nx1 w) (
  Q (.tuple ⟨[]⟩) w)

def inflate_state_coded.l1 (s_0 : (Option Addr)) (a_6 : (Option Addr)) (b_7 : (Option Addr)) (Q : Value → World → Prop) (w : World) : Prop :=
  ∃ (I : World → Prop) (μ : World → Nat), I  w ∧ ∀ w : World, I  w → inflate_state_coded.b1 s_0 a_6 b_7 Q (fun s_0' a_6' b_7' w' => (s_0' = s_0 ∧ a_6' = a_6 ∧ b_7' = b_7) ∧ I  w' ∧ μ  w' < μ  w) w

def inflate_state_coded.j2 (s_0 : (Option Addr)) (a_6 : (Option Addr)) (b_7 : (Option Addr)) (Q : Value → World → Prop) (w : World) : Prop :=
  inflate_state_coded.l1 s_0 a_6 b_7 Q w

def inflate_state_coded.j1 (s_0 : (Option Addr)) (lit_1 : Sl) (dist_2 : Sl) (Q : Value → World → Prop) (w : World) : Prop :=
  Calls Try.prog 179 ⟨[.pointer s_0, .slice lit_1.a lit_1.len lit_1.cap, .bool true]⟩ w fun e13 w14 =>
  ∃ r15 : (Option Addr), e13 = .returned (.pointer r15) ∧
  Calls Try.prog 179 ⟨[.pointer s_0, .slice dist_2.a dist_2.len dist_2.cap, .bool true]⟩ w14 fun e16 w17 =>
  ∃ r18 : (Option Addr), e16 = .returned (.pointer r18) ∧
  nz s_0 fun a19 =>
  ldI .i64 w17 (Addr.add a19 3) fun x20 =>
  br ((x20 : Int) != 0) (
  Q (.tuple ⟨[]⟩) w17) (
  inflate_state_coded.j2 s_0 r15 r18 Q w17)

def inflate_state_coded (s_0 : (Option Addr)) (lit_1 : Sl) (dist_2 : Sl) (Q : Value → World → Prop) (w : World) : Prop :=
  nz s_0 fun a21 =>
  ldI .i64 w (Addr.add a21 3) fun x22 =>
  br ((x22 : Int) == 0) (
  ixS lit_1.a lit_1.len 256 1 fun a23 =>
  ldI .i64 w a23 fun x24 =>
  br ((x24 : Int) == 0) (
  Calls Try.prog 171 ⟨[.pointer s_0, .int .i64 2]⟩ w fun e25 w26 =>
  e25 = .returned (.tuple ⟨[]⟩) ∧
  inflate_state_coded.j1 s_0 lit_1 dist_2 Q w26) (
  inflate_state_coded.j1 s_0 lit_1 dist_2 Q w)) (
  inflate_state_coded.j1 s_0 lit_1 dist_2 Q w)

theorem inflate_state_coded.ok (s_0 : (Option Addr)) (lit_1 : Sl) (dist_2 : Sl) (Q : Value → World → Prop) (w : World) (h : inflate_state_coded s_0 lit_1 dist_2 Q w) : Calls Try.prog 169 ⟨[.pointer s_0, .slice lit_1.a lit_1.len lit_1.cap, .slice dist_2.a dist_2.len dist_2.cap]⟩ w (Ret Q) := by
  refine calls_of_wpc [] Try.func169 rfl rfl rfl rfl ?_
  refine wpc_seq (fun ρ w => asP (ρ 0) fun s_0 => asL (ρ 1) fun lit_1 => asL (ρ 2) fun dist_2 => inflate_state_coded.j1 s_0 lit_1 dist_2 Q w) ?_ ?_
  · skip
    exact pt_sound hmix _ (Eq.mp (by kernel_rfl) h)
  · intro ρ w h
    obtain ⟨s_0, e0, h⟩ := asP_el h
    obtain ⟨lit_1, e1, h⟩ := asL_el h
    obtain ⟨dist_2, e2, h⟩ := asL_el h
    refine reroot e0 (reroot (upd_other e1 rfl) (reroot (upd_other (upd_other e2 rfl) rfl) ?_))
    refine wpc_pre2 hmix (fun ρ w => asP (ρ 0) fun s_0 => asP (ρ 6) fun a_6 => asP (ρ 7) fun b_7 => inflate_state_coded.j2 s_0 a_6 b_7 Q w) (Eq.mp (by kernel_rfl) h) ?_
    intro ρ w h
    obtain ⟨s_0, e0, h⟩ := asP_el h
    obtain ⟨a_6, e6, h⟩ := asP_el h
    obtain ⟨b_7, e7, h⟩ := asP_el h
    refine reroot e0 (reroot (upd_other e6 rfl) (reroot (upd_other (upd_other e7 rfl) rfl) ?_))
    refine wpc_block ?_
    obtain ⟨I, μ, hI, hr⟩ := h
    refine wpc_loopS (α := Unit) (fun s ρ => ρ 0 = .pointer s_0 ∧ ρ 6 = .pointer a_6 ∧ ρ 7 = .pointer b_7) (fun s w => I  w) (fun s w => μ  w) () ⟨rfl, rfl, rfl⟩ hI ?_
    rintro ⟨⟩ ρ w ⟨e0, e6, e7⟩ hI
    have h := hr  w hI
    clear hr
    obtain ⟨nx1, hnx⟩ : ∃ nx : (Option Addr) → (Option Addr) → (Option Addr) → World → Prop, nx = (fun s_0' a_6' b_7' w' => (s_0' = s_0 ∧ a_6' = a_6 ∧ b_7' = b_7) ∧ I  w' ∧ μ  w' < μ  w) := ⟨_, rfl⟩
    rw [← hnx] at h
    refine wpc_norm (M := fun ρ w => asP (ρ 0) fun s_0 => asP (ρ 6) fun a_6 => asP (ρ 7) fun b_7 => nx1 s_0 a_6 b_7 w) ?_ (fun ρ w h => ?_)
    · skip
      refine reroot e0 (reroot (upd_other e6 rfl) (reroot (upd_other (upd_other e7 rfl) rfl) ?_))
      refine wpc_seq (fun ρ w => asP (ρ 0) fun s_0 => asP (ρ 6) fun a_6 => asP (ρ 7) fun b_7 => inflate_state_coded.j3 s_0 a_6 b_7 Q nx1 w) ?_ ?_
      · skip
        exact pt_sound hmix _ (Eq.mp (by kernel_rfl) h)
      · intro ρ w h
        obtain ⟨s_0, e0, h⟩ := asP_el h
        obtain ⟨a_6, e6, h⟩ := asP_el h
        obtain ⟨b_7, e7, h⟩ := asP_el h
        refine reroot e0 (reroot (upd_other e6 rfl) (reroot (upd_other (upd_other e7 rfl) rfl) ?_))
        refine wpc_block ?_
        refine wpc_seq (fun ρ w => asP (ρ 0) fun s_0 => asP (ρ 6) fun a_6 => asP (ρ 7) fun b_7 => asI .i64 (ρ 8) fun v_8 => inflate_state_coded.j4 s_0 a_6 b_7 v_8 Q nx1 w) ?_ ?_
        · skip
          exact pt_sound hmix _ (Eq.mp (by kernel_rfl) h)
        · intro ρ w h
          obtain ⟨s_0, e0, h⟩ := asP_el h
          obtain ⟨a_6, e6, h⟩ := asP_el h
          obtain ⟨b_7, e7, h⟩ := asP_el h
          obtain ⟨v_8, e8, h⟩ := asI_el h
          refine reroot e0 (reroot (upd_other e6 rfl) (reroot (upd_other (upd_other e7 rfl) rfl) (reroot (upd_other (upd_other (upd_other e8 rfl) rfl) rfl) ?_)))
          refine wpc_block ?_
          refine wpc_seq (fun ρ w => asP (ρ 0) fun s_0 => asP (ρ 6) fun a_6 => asP (ρ 7) fun b_7 => asI .i64 (ρ 8) fun v_8 => asB (ρ 47) fun t47 => inflate_state_coded.j5 s_0 a_6 b_7 v_8 t47 Q nx1 w) ?_ ?_
          · skip
            exact pt_sound hmix _ (Eq.mp (by kernel_rfl) h)
          · intro ρ w h
            obtain ⟨s_0, e0, h⟩ := asP_el h
            obtain ⟨a_6, e6, h⟩ := asP_el h
            obtain ⟨b_7, e7, h⟩ := asP_el h
            obtain ⟨v_8, e8, h⟩ := asI_el h
            obtain ⟨t47, e47, h⟩ := asB_el h
            refine reroot e0 (reroot (upd_other e6 rfl) (reroot (upd_other (upd_other e7 rfl) rfl) (reroot (upd_other (upd_other (upd_other e8 rfl) rfl) rfl) (reroot (upd_other (upd_other (upd_other (upd_other e47 rfl) rfl) rfl) rfl) ?_))))
            exact pt_sound hmix _ (Eq.mp (by kernel_rfl) h)
    · skip
      obtain ⟨s_0', e0', h⟩ := asP_el h
      obtain ⟨a_6', e6', h⟩ := asP_el h
      obtain ⟨b_7', e7', h⟩ := asP_el h
      rw [hnx] at h
      obtain ⟨hu, hI2, hμ⟩ := h
      obtain ⟨rfl, rfl, rfl⟩ := hu
      exact ⟨(), ⟨e0', e6', e7'⟩, hI2, hμ⟩

/-! (*trove/inflate.state).block -/
def inflate_state_block (s_0 : (Option Addr)) (Q : Value → World → Prop) (w : World) : Prop :=
  Calls Try.prog 167 ⟨[.pointer s_0, .int .i64 1]⟩ w fun e1 w2 =>
  ∃ r3 : Int, e1 = .returned (.int .i64 r3) ∧
  Calls Try.prog 167 ⟨[.pointer s_0, .int .i64 2]⟩ w2 fun e4 w5 =>
  ∃ r6 : Int, e4 = .returned (.int .i64 r6) ∧
  nz s_0 fun a7 =>
  ldI .i64 w5 (Addr.add a7 3) fun x8 =>
  br ((x8 : Int) != 0) (
  Q (.bool false) w5) (
  br ((r6 : Int) == 0) (
  Calls Try.prog 168 ⟨[.pointer s_0]⟩ w5 fun e9 w10 =>
  e9 = .returned (.tuple ⟨[]⟩) ∧
  Q (.bool ((r3 : Int) == 1)) w10) (
  br ((r6 : Int) == 1) (
  Calls Try.prog 114 ⟨[]⟩ w5 fun e11 w12 =>
  ∃ r13 : Sl, ∃ r14 : Sl, e11 = .returned (.tuple ⟨[.slice r13.a r13.len r13.cap, .slice r14.a r14.len r14.cap]⟩) ∧
  Calls Try.prog 169 ⟨[.pointer s_0, .slice r13.a r13.len r13.cap, .slice r14.a r14.len r14.cap]⟩ w12 fun e15 w16 =>
  e15 = .returned (.tuple ⟨[]⟩) ∧
  Q (.bool ((r3 : Int) == 1)) w16) (
  br ((r6 : Int) == 2) (
  Calls Try.prog 170 ⟨[.pointer s_0]⟩ w5 fun e17 w18 =>
  ∃ r19 : Sl, ∃ r20 : Sl, e17 = .returned (.tuple ⟨[.slice r19.a r19.len r19.cap, .slice r20.a r20.len r20.cap]⟩) ∧
  Calls Try.prog 169 ⟨[.pointer s_0, .slice r19.a r19.len r19.cap, .slice r20.a r20.len r20.cap]⟩ w18 fun e21 w22 =>
  e21 = .returned (.tuple ⟨[]⟩) ∧
  Q (.bool ((r3 : Int) == 1)) w22) (
  Calls Try.prog 171 ⟨[.pointer s_0, .int .i64 2]⟩ w5 fun e23 w24 =>
  e23 = .returned (.tuple ⟨[]⟩) ∧
  Q (.bool ((r3 : Int) == 1)) w24))))

theorem inflate_state_block.ok (s_0 : (Option Addr)) (Q : Value → World → Prop) (w : World) (h : inflate_state_block s_0 Q w) : Calls Try.prog 151 ⟨[.pointer s_0]⟩ w (Ret Q) := by
  refine calls_of_wpc [.tmp 2] Try.func151 rfl rfl rfl rfl ?_
  exact pt_sound hmix _ (Eq.mp (by kernel_rfl) h)

/-! trove/inflate.Inflate -/
def inflate_Inflate.j3 (s_7 : (Option Addr)) (Q : Value → World → Prop) (w : World) : Prop :=
  lt (World.drew w) fun w1 =>
  nz s_7 fun a2 =>
  ldL w1 (Addr.add a2 1) fun x3 =>
  nz s_7 fun a4 =>
  (Calls Try.prog 125 ⟨[.slice x3.a x3.len x3.cap]⟩ w1 fun e5 w6 =>
  ∃ r7 : Sl, e5 = .returned (.slice r7.a r7.len r7.cap) ∧
  ldP w6 (Addr.add a4 0) fun x8 =>
  Calls Try.prog 54 ⟨[.pointer x8]⟩ w6 fun e9 w10 =>
  ∃ r11 : Int, e9 = .returned (.int .i64 r11) ∧
  Q (.tuple ⟨[.slice r7.a r7.len r7.cap, .int .i64 r11, .int .i64 0]⟩) w10) ∧ (
  ldP w1 (Addr.add a4 0) fun x12 =>
  Calls Try.prog 125 ⟨[.slice x3.a x3.len x3.cap]⟩ w1 fun e13 w14 =>
  ∃ r15 : Sl, e13 = .returned (.slice r15.a r15.len r15.cap) ∧
  Calls Try.prog 54 ⟨[.pointer x12]⟩ w14 fun e16 w17 =>
  ∃ r18 : Int, e16 = .returned (.int .i64 r18) ∧
  Q (.tuple ⟨[.slice r15.a r15.len r15.cap, .int .i64 r18, .int .i64 0]⟩) w17)

def inflate_Inflate.b1 (s_7 : (Option Addr)) (last_8 : Bool) (Q : Value → World → Prop) (nx1 : (Option Addr) → Bool → World → Prop) (w : World) : Prop :=
  br (!last_8) (
  Calls Try.prog 151 ⟨[.pointer s_7]⟩ w fun e19 w20 =>
  ∃ r21 : Bool, e19 = .returned (.bool r21) ∧
  nz s_7 fun a22 =>
  ldI .i64 w20 (Addr.add a22 3) fun x23 =>
  br ((x23 : Int) != 0) (
  lt (World.drew w20) fun w24 =>
  nz s_7 fun a25 =>
  ldI .i64 w24 (Addr.add a25 3) fun x26 =>
  Q (.tuple ⟨[.slice none 0 0, .int .i64 0, .int .i64 x26]⟩) w24) (
  nx1 s_7 r21 w20)) (
  inflate_Inflate.j3 s_7 Q w)

def inflate_Inflate.l1 (s_7 : (Option Addr)) (last_8 : Bool) (Q : Value → World → Prop) (w : World) : Prop :=
  ∃ (I : Bool → World → Prop) (μ : Bool → World → Nat), I last_8 w ∧ ∀ last_8 : Bool, ∀ w : World, I last_8 w → inflate_Inflate.b1 s_7 last_8 Q (fun s_7' last_8' w' => (s_7' = s_7) ∧ I last_8' w' ∧ μ last_8' w' < μ last_8 w) w

def inflate_Inflate.j4 (s_7 : (Option Addr)) (last_8 : Bool) (Q : Value → World → Prop) (w : World) : Prop :=
  inflate_Inflate.l1 s_7 last_8 Q w

def inflate_Inflate.j2 (s_7 : (Option Addr)) (Q : Value → World → Prop) (w : World) : Prop :=
  inflate_Inflate.j4 s_7 false Q w

def inflate_Inflate.j1 (b_0 : Sl) (most_1 : Int) (Q : Value → World → Prop) (w : World) : Prop :=
  br (decide ((most_1 : Int) < 0)) (
  Q (.tuple ⟨[.slice none 0 0, .int .i64 0, .int .i64 1]⟩) w) (
  br (decide ((most_1 : Int) > 262144)) (
  Q (.tuple ⟨[.slice none 0 0, .int .i64 0, .int .i64 1]⟩) w) (
  Calls Try.prog 36 ⟨[.slice b_0.a b_0.len b_0.cap]⟩ w fun e27 w28 =>
  ∃ r29 : (Option Addr), e27 = .returned (.pointer r29) ∧
  lt (⟨World.heapSize w28, 0, none⟩ : Addr) fun a30 =>
  lt (World.alloc w28 (.cells (⟨[.pointer r29, .slice none 0 0, .int .i64 most_1, .int .i64 0]⟩ : Array Value) 186)) fun w31 =>
  inflate_Inflate.j2 (some a30) Q w31))

def inflate_Inflate (b_0 : Sl) (most_1 : Int) (Q : Value → World → Prop) (w : World) : Prop :=
  inflate_Inflate.j1 b_0 most_1 Q w

theorem inflate_Inflate.ok (b_0 : Sl) (most_1 : Int) (Q : Value → World → Prop) (w : World) (h : inflate_Inflate b_0 most_1 Q w) : Calls Try.prog 121 ⟨[.slice b_0.a b_0.len b_0.cap, .int .i64 most_1]⟩ w (Ret Q) := by
  refine calls_of_wpc [.tmp 4, .tmp 5, .tmp 6] Try.func121 rfl rfl rfl rfl ?_
  refine wpc_seq (fun ρ w => asL (ρ 0) fun b_0 => asI .i64 (ρ 1) fun most_1 => inflate_Inflate.j1 b_0 most_1 Q w) ?_ ?_
  · skip
    exact pt_sound hmix _ (Eq.mp (by kernel_rfl) h)
  · intro ρ w h
    obtain ⟨b_0, e0, h⟩ := asL_el h
    obtain ⟨most_1, e1, h⟩ := asI_el h
    refine reroot e0 (reroot (upd_other e1 rfl) ?_)
    refine wpc_pre2 hmix (fun ρ w => asP (ρ 7) fun s_7 => inflate_Inflate.j2 s_7 Q w) (Eq.mp (by kernel_rfl) h) ?_
    intro ρ w h
    obtain ⟨s_7, e7, h⟩ := asP_el h
    refine reroot e7 ?_
    refine wpc_seq (fun ρ w => asP (ρ 7) fun s_7 => inflate_Inflate.j3 s_7 Q w) ?_ ?_
    · skip
      refine wpc_seq (fun ρ w => asP (ρ 7) fun s_7 => asB (ρ 8) fun last_8 => inflate_Inflate.j4 s_7 last_8 Q w) ?_ ?_
      · skip
        exact pt_sound hmix _ (Eq.mp (by kernel_rfl) h)
      · intro ρ w h
        obtain ⟨s_7, e7, h⟩ := asP_el h
        obtain ⟨last_8, e8, h⟩ := asB_el h
        refine reroot e7 (reroot (upd_other e8 rfl) ?_)
        refine wpc_block ?_
        obtain ⟨I, μ, hI, hr⟩ := h
        refine wpc_loopS (α := Bool) (fun s ρ => ρ 8 = .bool s ∧ ρ 7 = .pointer s_7) (fun s w => I s w) (fun s w => μ s w) last_8 ⟨rfl, rfl⟩ hI ?_
        rintro last_8 ρ w ⟨e8, e7⟩ hI
        have h := hr last_8 w hI
        clear hr
        obtain ⟨nx1, hnx⟩ : ∃ nx : (Option Addr) → Bool → World → Prop, nx = (fun s_7' last_8' w' => (s_7' = s_7) ∧ I last_8' w' ∧ μ last_8' w' < μ last_8 w) := ⟨_, rfl⟩
        rw [← hnx] at h
        refine wpc_norm (M := fun ρ w => asP (ρ 7) fun s_7 => asB (ρ 8) fun last_8 => nx1 s_7 last_8 w) ?_ (fun ρ w h => ?_)
        · skip
          refine reroot e7 (reroot (upd_other e8 rfl) ?_)
          exact pt_sound hmix _ (Eq.mp (by kernel_rfl) h)
        · skip
          obtain ⟨s_7', e7', h⟩ := asP_el h
          obtain ⟨last_8', e8', h⟩ := asB_el h
          rw [hnx] at h
          obtain ⟨hu, hI2, hμ⟩ := h
          obtain rfl := hu
          exact ⟨last_8', ⟨e8', e7'⟩, hI2, hμ⟩
    · intro ρ w h
      obtain ⟨s_7, e7, h⟩ := asP_el h
      refine reroot e7 ?_
      exact pt_sound hmix _ (Eq.mp (by kernel_rfl) h)

end Go.Proofs.Ytkajimndclhgaaa
