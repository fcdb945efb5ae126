/- PRINTED BY gen.py (own work): what calls come to, and the proofs of it. -/
import Derived.Test.YthdmmmfgjmmelaaVcJ
import Derived.Test.YthdmmmfgjmmelaaProg
namespace Go.Proofs.Ythdmmmfgjmmelaa
open Go Go.Proofs
set_option linter.unusedVariables false
set_option maxRecDepth 100000

/-! trove/huff.counts -/
def huff_counts.j2 (t2 : Addr) (out_3 : Addr) (Q : Value → World → Prop) (w : World) : Prop :=
  ldA w out_3 16 fun c1 =>
  (c1).size = 16 ∧
  stA w t2 c1 fun w2 =>
  ldA w2 t2 16 fun c3 =>
  Q (.agg c3) w2

def huff_counts.b1 (t2 : Addr) (out_3 : Addr) (t6 : Sl) (t7 : Int) (t8 : Int) (Q : Value → World → Prop) (nx1 : Addr → Addr → Sl → Int → Int → World → Prop) (w : World) : Prop :=
  br (decide ((t8 : Int) < t7)) (
  ixS t6.a t6.len t8 1 fun a4 =>
  ldI .i64 w a4 fun x5 =>
  br (decide ((x5 : Int) > 0)) (
  ixA out_3 16 x5 1 fun a6 =>
  ldI .i64 w a6 fun x7 =>
  lt (IntKind.i64.wrap (x7 + 1)) fun x8 =>
  ixA out_3 16 x5 1 fun a9 =>
  st w a9 (.int .i64 x8) fun w10 =>
  lt (IntKind.i64.wrap (t8 + 1)) fun x11 =>
  nx1 t2 out_3 t6 t7 x11 w10) (
  lt (IntKind.i64.wrap (t8 + 1)) fun x12 =>
  nx1 t2 out_3 t6 t7 x12 w)) (
  huff_counts.j2 t2 out_3 Q w)

def huff_counts.l1 (t2 : Addr) (out_3 : Addr) (t6 : Sl) (t7 : Int) (t8 : Int) (Q : Value → World → Prop) (w : World) : Prop :=
  ∃ (I : Int → World → Prop) (μ : Int → World → Nat), I t8 w ∧ ∀ t8 : Int, ∀ w : World, I t8 w → huff_counts.b1 t2 out_3 t6 t7 t8 Q (fun t2' out_3' t6' t7' t8' w' => (t2' = t2 ∧ out_3' = out_3 ∧ t6' = t6 ∧ t7' = t7) ∧ I t8' w' ∧ μ t8' w' < μ t8 w) w

def huff_counts.j3 (t2 : Addr) (out_3 : Addr) (t6 : Sl) (t7 : Int) (t8 : Int) (Q : Value → World → Prop) (w : World) : Prop :=
  huff_counts.l1 t2 out_3 t6 t7 t8 Q w

def huff_counts.j1 (lens_0 : Sl) (t2 : Addr) (out_3 : Addr) (Q : Value → World → Prop) (w : World) : Prop :=
  huff_counts.j3 t2 out_3 lens_0 ((lens_0.len : Nat) : Int) 0 Q w

def huff_counts (lens_0 : Sl) (Q : Value → World → Prop) (w : World) : Prop :=
  lt (⟨World.heapSize w, 0, none⟩ : Addr) fun a13 =>
  lt (World.alloc w (.cells (zc Try.prog 86) 86)) fun w14 =>
  lt (⟨World.heapSize w14, 0, none⟩ : Addr) fun a15 =>
  lt (World.alloc w14 (.cells (zc Try.prog 86) 86)) fun w16 =>
  huff_counts.j1 lens_0 a13 a15 Q w16

theorem huff_counts.ok (lens_0 : Sl) (Q : Value → World → Prop) (w : World) (h : huff_counts lens_0 Q w) : Calls Try.prog 47 ⟨[.slice lens_0.a lens_0.len lens_0.cap]⟩ w (Ret Q) := by
  refine calls_of_wpc [.cell 2 86] Try.func47 rfl rfl rfl rfl ?_
  refine wpc_pre2 hmix (fun ρ w => asL (ρ 0) fun lens_0 => asA (ρ 2) fun t2 => asA (ρ 3) fun out_3 => huff_counts.j1 lens_0 t2 out_3 Q w) (Eq.mp (by kernel_rfl) h) ?_
  intro ρ w h
  obtain ⟨lens_0, e0, h⟩ := asL_el h
  obtain ⟨t2, e2, h⟩ := asA_el h
  obtain ⟨out_3, e3, h⟩ := asA_el h
  refine reroot e0 (reroot (upd_other e2 rfl) (reroot (upd_other (upd_other e3 rfl) rfl) ?_))
  refine wpc_seq (fun ρ w => asA (ρ 2) fun t2 => asA (ρ 3) fun out_3 => huff_counts.j2 t2 out_3 Q w) ?_ ?_
  · skip
    refine wpc_seq (fun ρ w => asA (ρ 2) fun t2 => asA (ρ 3) fun out_3 => asL (ρ 6) fun t6 => asI .i64 (ρ 7) fun t7 => asI .i64 (ρ 8) fun t8 => huff_counts.j3 t2 out_3 t6 t7 t8 Q w) ?_ ?_
    · skip
      exact pt_sound hmix _ (Eq.mp (by kernel_rfl) h)
    · intro ρ w h
      obtain ⟨t2, e2, h⟩ := asA_el h
      obtain ⟨out_3, e3, h⟩ := asA_el h
      obtain ⟨t6, e6, h⟩ := asL_el h
      obtain ⟨t7, e7, h⟩ := asI_el h
      obtain ⟨t8, e8, h⟩ := asI_el h
      refine reroot e2 (reroot (upd_other e3 rfl) (reroot (upd_other (upd_other e6 rfl) rfl) (reroot (upd_other (upd_other (upd_other e7 rfl) rfl) rfl) (reroot (upd_other (upd_other (upd_other (upd_other e8 rfl) rfl) rfl) rfl) ?_))))
      refine wpc_block ?_
      obtain ⟨I, μ, hI, hr⟩ := h
      refine wpc_loopS (α := Int) (fun s ρ => ρ 8 = .int .i64 s ∧ ρ 2 = .pointer (some t2) ∧ ρ 3 = .pointer (some out_3) ∧ ρ 6 = .slice t6.a t6.len t6.cap ∧ ρ 7 = .int .i64 t7) (fun s w => I s w) (fun s w => μ s w) t8 ⟨rfl, rfl, rfl, rfl, rfl⟩ hI ?_
      rintro t8 ρ w ⟨e8, e2, e3, e6, e7⟩ hI
      have h := hr t8 w hI
      clear hr
      obtain ⟨nx1, hnx⟩ : ∃ nx : Addr → Addr → Sl → Int → Int → World → Prop, nx = (fun t2' out_3' t6' t7' t8' w' => (t2' = t2 ∧ out_3' = out_3 ∧ t6' = t6 ∧ t7' = t7) ∧ I t8' w' ∧ μ t8' w' < μ t8 w) := ⟨_, rfl⟩
      rw [← hnx] at h
      refine wpc_norm (M := fun ρ w => asA (ρ 2) fun t2 => asA (ρ 3) fun out_3 => asL (ρ 6) fun t6 => asI .i64 (ρ 7) fun t7 => asI .i64 (ρ 8) fun t8 => nx1 t2 out_3 t6 t7 t8 w) ?_ (fun ρ w h => ?_)
      · skip
        refine reroot e2 (reroot (upd_other e3 rfl) (reroot (upd_other (upd_other e6 rfl) rfl) (reroot (upd_other (upd_other (upd_other e7 rfl) rfl) rfl) (reroot (upd_other (upd_other (upd_other (upd_other e8 rfl) rfl) rfl) rfl) ?_))))
        exact pt_sound hmix _ (Eq.mp (by kernel_rfl) h)
      · skip
        obtain ⟨t2', e2', h⟩ := asA_el h
        obtain ⟨out_3', e3', h⟩ := asA_el h
        obtain ⟨t6', e6', h⟩ := asL_el h
        obtain ⟨t7', e7', h⟩ := asI_el h
        obtain ⟨t8', e8', h⟩ := asI_el h
        rw [hnx] at h
        obtain ⟨hu, hI2, hμ⟩ := h
        obtain ⟨rfl, rfl, rfl, rfl⟩ := hu
        exact ⟨t8', ⟨e8', e2', e3', e6', e7'⟩, hI2, hμ⟩
  · intro ρ w h
    obtain ⟨t2, e2, h⟩ := asA_el h
    obtain ⟨out_3, e3, h⟩ := asA_el h
    refine reroot e2 (reroot (upd_other e3 rfl) ?_)
    exact pt_sound hmix _ (Eq.mp (by kernel_rfl) h)

/-! trove/huff.Check -/
def huff_Check.j4 (room_6 : Int) (Q : Value → World → Prop) (w : World) : Prop :=
  br (decide ((room_6 : Int) < 0)) (
  Q (.tuple ⟨[.bool false, .int .i64 2]⟩) w) (
  Q (.tuple ⟨[.bool ((room_6 : Int) == 0), .int .i64 0]⟩) w)

def huff_Check.b1 (t26 : (Array Value)) (room_6 : Int) (t27 : Int) (Q : Value → World → Prop) (nx1 : (Array Value) → Int → Int → World → Prop) (w : World) : Prop :=
  br (decide ((t27 : Int) < 16)) (
  ((0 : Int) ≤ t27 ∧ t27 < ((16 : Nat) : Int)) ∧
  ptI .i64 t26 (Int.toNat t27 * 1) fun x1 =>
  br (decide ((t27 : Int) > 0)) (
  lt (IntKind.i64.wrap (15 - t27)) fun x2 =>
  (0 : Int) ≤ x2 ∧
  lt (shlV .i64 x1 x2) fun x3 =>
  lt (IntKind.i64.wrap (room_6 - x3)) fun x4 =>
  lt (IntKind.i64.wrap (t27 + 1)) fun x5 =>
  nx1 t26 x4 x5 w) (
  lt (IntKind.i64.wrap (t27 + 1)) fun x6 =>
  nx1 t26 room_6 x6 w)) (
  huff_Check.j4 room_6 Q w)

def huff_Check.l1 (t26 : (Array Value)) (room_6 : Int) (t27 : Int) (Q : Value → World → Prop) (w : World) : Prop :=
  ∃ (I : Int → Int → World → Prop) (μ : Int → Int → World → Nat), I room_6 t27 w ∧ ∀ room_6 : Int, ∀ t27 : Int, ∀ w : World, I room_6 t27 w → huff_Check.b1 t26 room_6 t27 Q (fun t26' room_6' t27' w' => (t26' = t26) ∧ I room_6' t27' w' ∧ μ room_6' t27' w' < μ room_6 t27 w) w

def huff_Check.j5 (room_6 : Int) (t26 : (Array Value)) (t27 : Int) (Q : Value → World → Prop) (w : World) : Prop :=
  huff_Check.l1 t26 room_6 t27 Q w

def huff_Check.j3 (lens_0 : Sl) (room_6 : Int) (Q : Value → World → Prop) (w : World) : Prop :=
  Calls Try.prog 47 ⟨[.slice lens_0.a lens_0.len lens_0.cap]⟩ w fun e7 w8 =>
  ∃ r9 : (Array Value), e7 = .returned (.agg r9) ∧
  huff_Check.j5 room_6 r9 0 Q w8

def huff_Check.j2 (lens_0 : Sl) (Q : Value → World → Prop) (w : World) : Prop :=
  huff_Check.j3 lens_0 32768 Q w

def huff_Check.b2 (lens_0 : Sl) (t12 : Sl) (t13 : Int) (t14 : Int) (Q : Value → World → Prop) (nx2 : Sl → Sl → Int → Int → World → Prop) (w : World) : Prop :=
  br (decide ((t14 : Int) < t13)) (
  ixS t12.a t12.len t14 1 fun a10 =>
  ldI .i64 w a10 fun x11 =>
  br (decide ((x11 : Int) < 0)) (
  Q (.tuple ⟨[.bool false, .int .i64 1]⟩) w) (
  br (decide ((x11 : Int) > 15)) (
  Q (.tuple ⟨[.bool false, .int .i64 1]⟩) w) (
  lt (IntKind.i64.wrap (t14 + 1)) fun x12 =>
  nx2 lens_0 t12 t13 x12 w))) (
  huff_Check.j2 lens_0 Q w)

def huff_Check.l2 (lens_0 : Sl) (t12 : Sl) (t13 : Int) (t14 : Int) (Q : Value → World → Prop) (w : World) : Prop :=
  ∃ (I : Int → World → Prop) (μ : Int → World → Nat), I t14 w ∧ ∀ t14 : Int, ∀ w : World, I t14 w → huff_Check.b2 lens_0 t12 t13 t14 Q (fun lens_0' t12' t13' t14' w' => (lens_0' = lens_0 ∧ t12' = t12 ∧ t13' = t13) ∧ I t14' w' ∧ μ t14' w' < μ t14 w) w

def huff_Check.j6 (lens_0 : Sl) (t12 : Sl) (t13 : Int) (t14 : Int) (Q : Value → World → Prop) (w : World) : Prop :=
  huff_Check.l2 lens_0 t12 t13 t14 Q w

def huff_Check.j1 (lens_0 : Sl) (Q : Value → World → Prop) (w : World) : Prop :=
  huff_Check.j6 lens_0 lens_0 ((lens_0.len : Nat) : Int) 0 Q w

def huff_Check (lens_0 : Sl) (Q : Value → World → Prop) (w : World) : Prop :=
  br (decide ((((lens_0.len : Nat) : Int) : Int) > 288)) (
  Q (.tuple ⟨[.bool false, .int .i64 1]⟩) w) (
  huff_Check.j1 lens_0 Q w)

theorem huff_Check.ok (lens_0 : Sl) (Q : Value → World → Prop) (w : World) (h : huff_Check lens_0 Q w) : Calls Try.prog 13 ⟨[.slice lens_0.a lens_0.len lens_0.cap]⟩ w (Ret Q) := by
  refine calls_of_wpc [.tmp 2, .tmp 3] Try.func13 rfl rfl rfl rfl ?_
  refine wpc_pre2 hmix (fun ρ w => asL (ρ 0) fun lens_0 => huff_Check.j1 lens_0 Q w) (Eq.mp (by kernel_rfl) h) ?_
  intro ρ w h
  obtain ⟨lens_0, e0, h⟩ := asL_el h
  refine reroot e0 ?_
  refine wpc_seq (fun ρ w => asL (ρ 0) fun lens_0 => huff_Check.j2 lens_0 Q w) ?_ ?_
  · skip
    refine wpc_seq (fun ρ w => asL (ρ 0) fun lens_0 => asL (ρ 12) fun t12 => asI .i64 (ρ 13) fun t13 => asI .i64 (ρ 14) fun t14 => huff_Check.j6 lens_0 t12 t13 t14 Q w) ?_ ?_
    · skip
      exact pt_sound hmix _ (Eq.mp (by kernel_rfl) h)
    · intro ρ w h
      obtain ⟨lens_0, e0, h⟩ := asL_el h
      obtain ⟨t12, e12, h⟩ := asL_el h
      obtain ⟨t13, e13, h⟩ := asI_el h
      obtain ⟨t14, e14, h⟩ := asI_el h
      refine reroot e0 (reroot (upd_other e12 rfl) (reroot (upd_other (upd_other e13 rfl) rfl) (reroot (upd_other (upd_other (upd_other e14 rfl) rfl) rfl) ?_)))
      refine wpc_block ?_
      obtain ⟨I, μ, hI, hr⟩ := h
      refine wpc_loopS (α := Int) (fun s ρ => ρ 14 = .int .i64 s ∧ ρ 0 = .slice lens_0.a lens_0.len lens_0.cap ∧ ρ 12 = .slice t12.a t12.len t12.cap ∧ ρ 13 = .int .i64 t13) (fun s w => I s w) (fun s w => μ s w) t14 ⟨rfl, rfl, rfl, rfl⟩ hI ?_
      rintro t14 ρ w ⟨e14, e0, e12, e13⟩ hI
      have h := hr t14 w hI
      clear hr
      obtain ⟨nx2, hnx⟩ : ∃ nx : Sl → Sl → Int → Int → World → Prop, nx = (fun lens_0' t12' t13' t14' w' => (lens_0' = lens_0 ∧ t12' = t12 ∧ t13' = t13) ∧ I t14' w' ∧ μ t14' w' < μ t14 w) := ⟨_, rfl⟩
      rw [← hnx] at h
      refine wpc_norm (M := fun ρ w => asL (ρ 0) fun lens_0 => asL (ρ 12) fun t12 => asI .i64 (ρ 13) fun t13 => asI .i64 (ρ 14) fun t14 => nx2 lens_0 t12 t13 t14 w) ?_ (fun ρ w h => ?_)
      · skip
        refine reroot e0 (reroot (upd_other e12 rfl) (reroot (upd_other (upd_other e13 rfl) rfl) (reroot (upd_other (upd_other (upd_other e14 rfl) rfl) rfl) ?_)))
        exact pt_sound hmix _ (Eq.mp (by kernel_rfl) h)
      · skip
        obtain ⟨lens_0', e0', h⟩ := asL_el h
        obtain ⟨t12', e12', h⟩ := asL_el h
        obtain ⟨t13', e13', h⟩ := asI_el h
        obtain ⟨t14', e14', h⟩ := asI_el h
        rw [hnx] at h
        obtain ⟨hu, hI2, hμ⟩ := h
        obtain ⟨rfl, rfl, rfl⟩ := hu
        exact ⟨t14', ⟨e14', e0', e12', e13'⟩, hI2, hμ⟩
  · intro ρ w h
    obtain ⟨lens_0, e0, h⟩ := asL_el h
    refine reroot e0 ?_
    refine wpc_seq (fun ρ w => asL (ρ 0) fun lens_0 => asI .i64 (ρ 6) fun room_6 => huff_Check.j3 lens_0 room_6 Q w) ?_ ?_
    · skip
      exact pt_sound hmix _ (Eq.mp (by kernel_rfl) h)
    · intro ρ w h
      obtain ⟨lens_0, e0, h⟩ := asL_el h
      obtain ⟨room_6, e6, h⟩ := asI_el h
      refine reroot e0 (reroot (upd_other e6 rfl) ?_)
      refine wpc_seq (fun ρ w => asI .i64 (ρ 6) fun room_6 => huff_Check.j4 room_6 Q w) ?_ ?_
      · skip
        refine wpc_seq (fun ρ w => asI .i64 (ρ 6) fun room_6 => asG (ρ 26) fun t26 => asI .i64 (ρ 27) fun t27 => huff_Check.j5 room_6 t26 t27 Q w) ?_ ?_
        · skip
          exact pt_sound hmix _ (Eq.mp (by kernel_rfl) h)
        · intro ρ w h
          obtain ⟨room_6, e6, h⟩ := asI_el h
          obtain ⟨t26, e26, h⟩ := asG_el h
          obtain ⟨t27, e27, h⟩ := asI_el h
          refine reroot e6 (reroot (upd_other e26 rfl) (reroot (upd_other (upd_other e27 rfl) rfl) ?_))
          refine wpc_block ?_
          obtain ⟨I, μ, hI, hr⟩ := h
          refine wpc_loopS (α := Int × Int) (fun s ρ => ρ 6 = .int .i64 s.1 ∧ ρ 27 = .int .i64 s.2 ∧ ρ 26 = .agg t26) (fun s w => I s.1 s.2 w) (fun s w => μ s.1 s.2 w) (room_6, t27) ⟨rfl, rfl, rfl⟩ hI ?_
          rintro ⟨room_6, t27⟩ ρ w ⟨e6, e27, e26⟩ hI
          have h := hr room_6 t27 w hI
          clear hr
          obtain ⟨nx1, hnx⟩ : ∃ nx : (Array Value) → Int → Int → World → Prop, nx = (fun t26' room_6' t27' w' => (t26' = t26) ∧ I room_6' t27' w' ∧ μ room_6' t27' w' < μ room_6 t27 w) := ⟨_, rfl⟩
          rw [← hnx] at h
          refine wpc_norm (M := fun ρ w => asG (ρ 26) fun t26 => asI .i64 (ρ 6) fun room_6 => asI .i64 (ρ 27) fun t27 => nx1 t26 room_6 t27 w) ?_ (fun ρ w h => ?_)
          · skip
            refine reroot e6 (reroot (upd_other e26 rfl) (reroot (upd_other (upd_other e27 rfl) rfl) ?_))
            exact pt_sound hmix _ (Eq.mp (by kernel_rfl) h)
          · skip
            obtain ⟨t26', e26', h⟩ := asG_el h
            obtain ⟨room_6', e6', h⟩ := asI_el h
            obtain ⟨t27', e27', h⟩ := asI_el h
            rw [hnx] at h
            obtain ⟨hu, hI2, hμ⟩ := h
            obtain rfl := hu
            exact ⟨(room_6', t27'), ⟨e6', e27', e26'⟩, hI2, hμ⟩
      · intro ρ w h
        obtain ⟨room_6, e6, h⟩ := asI_el h
        refine reroot e6 ?_
        exact pt_sound hmix _ (Eq.mp (by kernel_rfl) h)

/-! trove/huff.Codes -/
def huff_Codes.j5 (out_9 : Sl) (Q : Value → World → Prop) (w : World) : Prop :=
  Q (.tuple ⟨[.slice out_9.a out_9.len out_9.cap, .int .i64 0]⟩) w

def huff_Codes.b1 (next_6 : Addr) (out_9 : Sl) (t41 : Sl) (t42 : Int) (t43 : Int) (Q : Value → World → Prop) (nx1 : Addr → Sl → Sl → Int → Int → World → Prop) (w : World) : Prop :=
  br (decide ((t43 : Int) < t42)) (
  ixS t41.a t41.len t43 1 fun a1 =>
  ldI .i64 w a1 fun x2 =>
  br (decide ((x2 : Int) > 0)) (
  ixA next_6 16 x2 1 fun a3 =>
  ldI .i64 w a3 fun x4 =>
  ixS out_9.a out_9.len t43 1 fun a5 =>
  st w a5 (.int .i64 x4) fun w6 =>
  ixA next_6 16 x2 1 fun a7 =>
  ldI .i64 w6 a7 fun x8 =>
  lt (IntKind.i64.wrap (x8 + 1)) fun x9 =>
  ixA next_6 16 x2 1 fun a10 =>
  st w6 a10 (.int .i64 x9) fun w11 =>
  lt (IntKind.i64.wrap (t43 + 1)) fun x12 =>
  nx1 next_6 out_9 t41 t42 x12 w11) (
  lt (IntKind.i64.wrap (t43 + 1)) fun x13 =>
  nx1 next_6 out_9 t41 t42 x13 w)) (
  huff_Codes.j5 out_9 Q w)

def huff_Codes.l1 (next_6 : Addr) (out_9 : Sl) (t41 : Sl) (t42 : Int) (t43 : Int) (Q : Value → World → Prop) (w : World) : Prop :=
  ∃ (I : Int → World → Prop) (μ : Int → World → Nat), I t43 w ∧ ∀ t43 : Int, ∀ w : World, I t43 w → huff_Codes.b1 next_6 out_9 t41 t42 t43 Q (fun next_6' out_9' t41' t42' t43' w' => (next_6' = next_6 ∧ out_9' = out_9 ∧ t41' = t41 ∧ t42' = t42) ∧ I t43' w' ∧ μ t43' w' < μ t43 w) w

def huff_Codes.j6 (next_6 : Addr) (out_9 : Sl) (t41 : Sl) (t42 : Int) (t43 : Int) (Q : Value → World → Prop) (w : World) : Prop :=
  huff_Codes.l1 next_6 out_9 t41 t42 t43 Q w

def huff_Codes.j4 (lens_0 : Sl) (next_6 : Addr) (out_9 : Sl) (Q : Value → World → Prop) (w : World) : Prop :=
  huff_Codes.j6 next_6 out_9 lens_0 ((lens_0.len : Nat) : Int) 0 Q w

def huff_Codes.j3 (lens_0 : Sl) (next_6 : Addr) (Q : Value → World → Prop) (w : World) : Prop :=
  mkK Try.prog 3 w ((lens_0.len : Nat) : Int) ((lens_0.len : Nat) : Int) fun s14 w15 =>
  huff_Codes.j4 lens_0 next_6 s14 Q w15

def huff_Codes.b2 (lens_0 : Sl) (next_6 : Addr) (c_7 : Addr) (n_8 : Int) (Q : Value → World → Prop) (nx2 : Sl → Addr → Addr → Int → World → Prop) (w : World) : Prop :=
  br (decide ((n_8 : Int) ≤ 15)) (
  lt (World.drew w) fun w16 =>
  lt (IntKind.i64.wrap (n_8 - 1)) fun x17 =>
  ixA next_6 16 x17 1 fun a18 =>
  ldI .i64 w16 a18 fun x19 =>
  lt (IntKind.i64.wrap (n_8 - 1)) fun x20 =>
  ixA c_7 16 x20 1 fun a21 =>
  ldI .i64 w16 a21 fun x22 =>
  lt (IntKind.i64.wrap (x19 + x22)) fun x23 =>
  (0 : Int) ≤ 1 ∧
  lt (shlV .i64 x23 1) fun x24 =>
  ixA next_6 16 n_8 1 fun a25 =>
  st w16 a25 (.int .i64 x24) fun w26 =>
  lt (IntKind.i64.wrap (n_8 + 1)) fun x27 =>
  nx2 lens_0 next_6 c_7 x27 w26) (
  huff_Codes.j3 lens_0 next_6 Q w)

def huff_Codes.l2 (lens_0 : Sl) (next_6 : Addr) (c_7 : Addr) (n_8 : Int) (Q : Value → World → Prop) (w : World) : Prop :=
  ∃ (I : Int → World → Prop) (μ : Int → World → Nat), I n_8 w ∧ ∀ n_8 : Int, ∀ w : World, I n_8 w → huff_Codes.b2 lens_0 next_6 c_7 n_8 Q (fun lens_0' next_6' c_7' n_8' w' => (lens_0' = lens_0 ∧ next_6' = next_6 ∧ c_7' = c_7) ∧ I n_8' w' ∧ μ n_8' w' < μ n_8 w) w

def huff_Codes.j7 (lens_0 : Sl) (next_6 : Addr) (c_7 : Addr) (n_8 : Int) (Q : Value → World → Prop) (w : World) : Prop :=
  huff_Codes.l2 lens_0 next_6 c_7 n_8 Q w

def huff_Codes.j2 (lens_0 : Sl) (next_6 : Addr) (c_7 : Addr) (Q : Value → World → Prop) (w : World) : Prop :=
  huff_Codes.j7 lens_0 next_6 c_7 1 Q w

def huff_Codes.j1 (lens_0 : Sl) (Q : Value → World → Prop) (w : World) : Prop :=
  lt (⟨World.heapSize w, 0, none⟩ : Addr) fun a28 =>
  lt (World.alloc w (.cells (zc Try.prog 86) 86)) fun w29 =>
  Calls Try.prog 47 ⟨[.slice lens_0.a lens_0.len lens_0.cap]⟩ w29 fun e30 w31 =>
  ∃ r32 : (Array Value), e30 = .returned (.agg r32) ∧
  lt (⟨World.heapSize w31, 0, none⟩ : Addr) fun a33 =>
  lt (World.alloc w31 (.cells (zc Try.prog 86) 86)) fun w34 =>
  (r32).size = 16 ∧
  stA w34 a33 r32 fun w35 =>
  huff_Codes.j2 lens_0 a28 a33 Q w35

def huff_Codes (lens_0 : Sl) (Q : Value → World → Prop) (w : World) : Prop :=
  Calls Try.prog 13 ⟨[.slice lens_0.a lens_0.len lens_0.cap]⟩ w fun e36 w37 =>
  ∃ r38 : Bool, ∃ r39 : Int, e36 = .returned (.tuple ⟨[.bool r38, .int .i64 r39]⟩) ∧
  br ((r39 : Int) != 0) (
  Q (.tuple ⟨[.slice none 0 0, .int .i64 r39]⟩) w37) (
  huff_Codes.j1 lens_0 Q w37)

theorem huff_Codes.ok (lens_0 : Sl) (Q : Value → World → Prop) (w : World) (h : huff_Codes lens_0 Q w) : Calls Try.prog 48 ⟨[.slice lens_0.a lens_0.len lens_0.cap]⟩ w (Ret Q) := by
  refine calls_of_wpc [.tmp 2, .tmp 3] Try.func48 rfl rfl rfl rfl ?_
  refine wpc_pre2 hmix (fun ρ w => asL (ρ 0) fun lens_0 => huff_Codes.j1 lens_0 Q w) (Eq.mp (by kernel_rfl) h) ?_
  intro ρ w h
  obtain ⟨lens_0, e0, h⟩ := asL_el h
  refine reroot e0 ?_
  refine wpc_pre2 hmix (fun ρ w => asL (ρ 0) fun lens_0 => asA (ρ 6) fun next_6 => asA (ρ 7) fun c_7 => huff_Codes.j2 lens_0 next_6 c_7 Q w) (Eq.mp (by kernel_rfl) h) ?_
  intro ρ w h
  obtain ⟨lens_0, e0, h⟩ := asL_el h
  obtain ⟨next_6, e6, h⟩ := asA_el h
  obtain ⟨c_7, e7, h⟩ := asA_el h
  refine reroot e0 (reroot (upd_other e6 rfl) (reroot (upd_other (upd_other e7 rfl) rfl) ?_))
  refine wpc_seq (fun ρ w => asL (ρ 0) fun lens_0 => asA (ρ 6) fun next_6 => huff_Codes.j3 lens_0 next_6 Q w) ?_ ?_
  · skip
    refine wpc_seq (fun ρ w => asL (ρ 0) fun lens_0 => asA (ρ 6) fun next_6 => asA (ρ 7) fun c_7 => asI .i64 (ρ 8) fun n_8 => huff_Codes.j7 lens_0 next_6 c_7 n_8 Q w) ?_ ?_
    · skip
      exact pt_sound hmix _ (Eq.mp (by kernel_rfl) h)
    · intro ρ w h
      obtain ⟨lens_0, e0, h⟩ := asL_el h
      obtain ⟨next_6, e6, h⟩ := asA_el h
      obtain ⟨c_7, e7, h⟩ := asA_el h
      obtain ⟨n_8, e8, h⟩ := asI_el h
      refine reroot e0 (reroot (upd_other e6 rfl) (reroot (upd_other (upd_other e7 rfl) rfl) (reroot (upd_other (upd_other (upd_other e8 rfl) rfl) rfl) ?_)))
      refine wpc_block ?_
      obtain ⟨I, μ, hI, hr⟩ := h
      refine wpc_loopS (α := Int) (fun s ρ => ρ 8 = .int .i64 s ∧ ρ 0 = .slice lens_0.a lens_0.len lens_0.cap ∧ ρ 6 = .pointer (some next_6) ∧ ρ 7 = .pointer (some c_7)) (fun s w => I s w) (fun s w => μ s w) n_8 ⟨rfl, rfl, rfl, rfl⟩ hI ?_
      rintro n_8 ρ w ⟨e8, e0, e6, e7⟩ hI
      have h := hr n_8 w hI
      clear hr
      obtain ⟨nx2, hnx⟩ : ∃ nx : Sl → Addr → Addr → Int → World → Prop, nx = (fun lens_0' next_6' c_7' n_8' w' => (lens_0' = lens_0 ∧ next_6' = next_6 ∧ c_7' = c_7) ∧ I n_8' w' ∧ μ n_8' w' < μ n_8 w) := ⟨_, rfl⟩
      rw [← hnx] at h
      refine wpc_norm (M := fun ρ w => asL (ρ 0) fun lens_0 => asA (ρ 6) fun next_6 => asA (ρ 7) fun c_7 => asI .i64 (ρ 8) fun n_8 => nx2 lens_0 next_6 c_7 n_8 w) ?_ (fun ρ w h => ?_)
      · skip
        refine reroot e0 (reroot (upd_other e6 rfl) (reroot (upd_other (upd_other e7 rfl) rfl) (reroot (upd_other (upd_other (upd_other e8 rfl) rfl) rfl) ?_)))
        exact pt_sound hmix _ (Eq.mp (by kernel_rfl) h)
      · skip
        obtain ⟨lens_0', e0', h⟩ := asL_el h
        obtain ⟨next_6', e6', h⟩ := asA_el h
        obtain ⟨c_7', e7', h⟩ := asA_el h
        obtain ⟨n_8', e8', h⟩ := asI_el h
        rw [hnx] at h
        obtain ⟨hu, hI2, hμ⟩ := h
        obtain ⟨rfl, rfl, rfl⟩ := hu
        exact ⟨n_8', ⟨e8', e0', e6', e7'⟩, hI2, hμ⟩
  · intro ρ w h
    obtain ⟨lens_0, e0, h⟩ := asL_el h
    obtain ⟨next_6, e6, h⟩ := asA_el h
    refine reroot e0 (reroot (upd_other e6 rfl) ?_)
    refine wpc_seq (fun ρ w => asL (ρ 0) fun lens_0 => asA (ρ 6) fun next_6 => asL (ρ 9) fun out_9 => huff_Codes.j4 lens_0 next_6 out_9 Q w) ?_ ?_
    · skip
      exact pt_sound hmix _ (Eq.mp (by kernel_rfl) h)
    · intro ρ w h
      obtain ⟨lens_0, e0, h⟩ := asL_el h
      obtain ⟨next_6, e6, h⟩ := asA_el h
      obtain ⟨out_9, e9, h⟩ := asL_el h
      refine reroot e0 (reroot (upd_other e6 rfl) (reroot (upd_other (upd_other e9 rfl) rfl) ?_))
      refine wpc_seq (fun ρ w => asL (ρ 9) fun out_9 => huff_Codes.j5 out_9 Q w) ?_ ?_
      · skip
        refine wpc_seq (fun ρ w => asA (ρ 6) fun next_6 => asL (ρ 9) fun out_9 => asL (ρ 41) fun t41 => asI .i64 (ρ 42) fun t42 => asI .i64 (ρ 43) fun t43 => huff_Codes.j6 next_6 out_9 t41 t42 t43 Q w) ?_ ?_
        · skip
          exact pt_sound hmix _ (Eq.mp (by kernel_rfl) h)
        · intro ρ w h
          obtain ⟨next_6, e6, h⟩ := asA_el h
          obtain ⟨out_9, e9, h⟩ := asL_el h
          obtain ⟨t41, e41, h⟩ := asL_el h
          obtain ⟨t42, e42, h⟩ := asI_el h
          obtain ⟨t43, e43, h⟩ := asI_el h
          refine reroot e6 (reroot (upd_other e9 rfl) (reroot (upd_other (upd_other e41 rfl) rfl) (reroot (upd_other (upd_other (upd_other e42 rfl) rfl) rfl) (reroot (upd_other (upd_other (upd_other (upd_other e43 rfl) rfl) rfl) rfl) ?_))))
          refine wpc_block ?_
          obtain ⟨I, μ, hI, hr⟩ := h
          refine wpc_loopS (α := Int) (fun s ρ => ρ 43 = .int .i64 s ∧ ρ 6 = .pointer (some next_6) ∧ ρ 9 = .slice out_9.a out_9.len out_9.cap ∧ ρ 41 = .slice t41.a t41.len t41.cap ∧ ρ 42 = .int .i64 t42) (fun s w => I s w) (fun s w => μ s w) t43 ⟨rfl, rfl, rfl, rfl, rfl⟩ hI ?_
          rintro t43 ρ w ⟨e43, e6, e9, e41, e42⟩ hI
          have h := hr t43 w hI
          clear hr
          obtain ⟨nx1, hnx⟩ : ∃ nx : Addr → Sl → Sl → Int → Int → World → Prop, nx = (fun next_6' out_9' t41' t42' t43' w' => (next_6' = next_6 ∧ out_9' = out_9 ∧ t41' = t41 ∧ t42' = t42) ∧ I t43' w' ∧ μ t43' w' < μ t43 w) := ⟨_, rfl⟩
          rw [← hnx] at h
          refine wpc_norm (M := fun ρ w => asA (ρ 6) fun next_6 => asL (ρ 9) fun out_9 => asL (ρ 41) fun t41 => asI .i64 (ρ 42) fun t42 => asI .i64 (ρ 43) fun t43 => nx1 next_6 out_9 t41 t42 t43 w) ?_ (fun ρ w h => ?_)
          · skip
            refine reroot e6 (reroot (upd_other e9 rfl) (reroot (upd_other (upd_other e41 rfl) rfl) (reroot (upd_other (upd_other (upd_other e42 rfl) rfl) rfl) (reroot (upd_other (upd_other (upd_other (upd_other e43 rfl) rfl) rfl) rfl) ?_))))
            exact pt_sound hmix _ (Eq.mp (by kernel_rfl) h)
          · skip
            obtain ⟨next_6', e6', h⟩ := asA_el h
            obtain ⟨out_9', e9', h⟩ := asL_el h
            obtain ⟨t41', e41', h⟩ := asL_el h
            obtain ⟨t42', e42', h⟩ := asI_el h
            obtain ⟨t43', e43', h⟩ := asI_el h
            rw [hnx] at h
            obtain ⟨hu, hI2, hμ⟩ := h
            obtain ⟨rfl, rfl, rfl, rfl⟩ := hu
            exact ⟨t43', ⟨e43', e6', e9', e41', e42'⟩, hI2, hμ⟩
      · intro ρ w h
        obtain ⟨out_9, e9, h⟩ := asL_el h
        refine reroot e9 ?_
        exact pt_sound hmix _ (Eq.mp (by kernel_rfl) h)

/-! trove/huff.New -/
def huff_New.j4 (d_0 : Sl) (t8 : (Option Addr)) (Q : Value → World → Prop) (w : World) : Prop :=
  Calls Try.prog 48 ⟨[.slice d_0.a d_0.len d_0.cap]⟩ w fun e1 w2 =>
  ∃ r3 : Sl, ∃ r4 : Int, e1 = .returned (.tuple ⟨[.slice r3.a r3.len r3.cap, .int .i64 r4]⟩) ∧
  nz t8 fun a5 =>
  st w2 (Addr.add a5 1) (.slice r3.a r3.len r3.cap) fun w6 =>
  Q (.tuple ⟨[.pointer t8, .int .i64 0]⟩) w6

def huff_New.j3 (d_0 : Sl) (i_1 : Bool) (t6 : Bool) (t8 : (Option Addr)) (Q : Value → World → Prop) (w : World) : Prop :=
  br (!t6) (
  br i_1 (
  nz t8 fun a7 =>
  ldL w (Addr.add a7 18) fun x8 =>
  br ((((x8.len : Nat) : Int) : Int) == 0) (
  br (!true) (
  Q (.tuple ⟨[.pointer none, .int .i64 2]⟩) w) (
  huff_New.j4 d_0 t8 Q w)) (
  nz t8 fun a9 =>
  ldL w (Addr.add a9 18) fun x10 =>
  br ((((x10.len : Nat) : Int) : Int) == 1) (
  nz t8 fun a11 =>
  ixA (Addr.add a11 2) 16 1 1 fun a12 =>
  ldI .i64 w a12 fun x13 =>
  br (!((x13 : Int) == 1)) (
  Q (.tuple ⟨[.pointer none, .int .i64 2]⟩) w) (
  huff_New.j4 d_0 t8 Q w)) (
  br (!false) (
  Q (.tuple ⟨[.pointer none, .int .i64 2]⟩) w) (
  huff_New.j4 d_0 t8 Q w)))) (
  br (!false) (
  Q (.tuple ⟨[.pointer none, .int .i64 2]⟩) w) (
  huff_New.j4 d_0 t8 Q w))) (
  huff_New.j4 d_0 t8 Q w)

def huff_New.j7 (d_0 : Sl) (i_1 : Bool) (t6 : Bool) (t8 : (Option Addr)) (t9 : Int) (Q : Value → World → Prop) (nx1 : Sl → Bool → Bool → (Option Addr) → Int → World → Prop) (w : World) : Prop :=
  lt (IntKind.i64.wrap (t9 + 1)) fun x14 =>
  nx1 d_0 i_1 t6 t8 x14 w

def huff_New.b2 (d_0 : Sl) (i_1 : Bool) (t6 : Bool) (t8 : (Option Addr)) (t9 : Int) (t31 : Sl) (t32 : Int) (t33 : Int) (Q : Value → World → Prop) (nx1 : Sl → Bool → Bool → (Option Addr) → Int → World → Prop) (nx2 : Sl → Bool → Bool → (Option Addr) → Int → Sl → Int → Int → World → Prop) (w : World) : Prop :=
  br (decide ((t33 : Int) < t32)) (
  ixS t31.a t31.len t33 1 fun a15 =>
  ldI .i64 w a15 fun x16 =>
  br ((x16 : Int) == t9) (
  nz t8 fun a17 =>
  ldL w (Addr.add a17 18) fun x18 =>
  lt (⟨World.heapSize w, 0, none⟩ : Addr) fun a19 =>
  lt (World.alloc w (.cells ⟨[.int .i64 t33]⟩ 3)) fun w20 =>
  rdO w20 (some a19) (1 * 1) fun c21 =>
  apK Try.prog 3 w20 x18.a x18.len x18.cap 1 c21 fun s22 w23 =>
  nz t8 fun a24 =>
  st w23 (Addr.add a24 18) (.slice s22.a s22.len s22.cap) fun w25 =>
  lt (IntKind.i64.wrap (t33 + 1)) fun x26 =>
  nx2 d_0 i_1 t6 t8 t9 t31 t32 x26 w25) (
  lt (IntKind.i64.wrap (t33 + 1)) fun x27 =>
  nx2 d_0 i_1 t6 t8 t9 t31 t32 x27 w)) (
  huff_New.j7 d_0 i_1 t6 t8 t9 Q nx1 w)

def huff_New.l2 (d_0 : Sl) (i_1 : Bool) (t6 : Bool) (t8 : (Option Addr)) (t9 : Int) (t31 : Sl) (t32 : Int) (t33 : Int) (Q : Value → World → Prop) (nx1 : Sl → Bool → Bool → (Option Addr) → Int → World → Prop) (w : World) : Prop :=
  ∃ (I : Int → World → Prop) (μ : Int → World → Nat), I t33 w ∧ ∀ t33 : Int, ∀ w : World, I t33 w → huff_New.b2 d_0 i_1 t6 t8 t9 t31 t32 t33 Q nx1 (fun d_0' i_1' t6' t8' t9' t31' t32' t33' w' => (d_0' = d_0 ∧ i_1' = i_1 ∧ t6' = t6 ∧ t8' = t8 ∧ t9' = t9 ∧ t31' = t31 ∧ t32' = t32) ∧ I t33' w' ∧ μ t33' w' < μ t33 w) w

def huff_New.j8 (d_0 : Sl) (i_1 : Bool) (t6 : Bool) (t8 : (Option Addr)) (t9 : Int) (t31 : Sl) (t32 : Int) (t33 : Int) (Q : Value → World → Prop) (nx1 : Sl → Bool → Bool → (Option Addr) → Int → World → Prop) (w : World) : Prop :=
  huff_New.l2 d_0 i_1 t6 t8 t9 t31 t32 t33 Q nx1 w

def huff_New.j6 (d_0 : Sl) (i_1 : Bool) (t6 : Bool) (t8 : (Option Addr)) (t9 : Int) (Q : Value → World → Prop) (nx1 : Sl → Bool → Bool → (Option Addr) → Int → World → Prop) (w : World) : Prop :=
  huff_New.j8 d_0 i_1 t6 t8 t9 d_0 ((d_0.len : Nat) : Int) 0 Q nx1 w

def huff_New.b1 (d_0 : Sl) (i_1 : Bool) (t6 : Bool) (t8 : (Option Addr)) (t9 : Int) (Q : Value → World → Prop) (nx1 : Sl → Bool → Bool → (Option Addr) → Int → World → Prop) (w : World) : Prop :=
  br (decide ((t9 : Int) ≤ 15)) (
  huff_New.j6 d_0 i_1 t6 t8 t9 Q nx1 w) (
  huff_New.j3 d_0 i_1 t6 t8 Q w)

def huff_New.l1 (d_0 : Sl) (i_1 : Bool) (t6 : Bool) (t8 : (Option Addr)) (t9 : Int) (Q : Value → World → Prop) (w : World) : Prop :=
  ∃ (I : Int → World → Prop) (μ : Int → World → Nat), I t9 w ∧ ∀ t9 : Int, ∀ w : World, I t9 w → huff_New.b1 d_0 i_1 t6 t8 t9 Q (fun d_0' i_1' t6' t8' t9' w' => (d_0' = d_0 ∧ i_1' = i_1 ∧ t6' = t6 ∧ t8' = t8) ∧ I t9' w' ∧ μ t9' w' < μ t9 w) w

def huff_New.j5 (d_0 : Sl) (i_1 : Bool) (t6 : Bool) (t8 : (Option Addr)) (t9 : Int) (Q : Value → World → Prop) (w : World) : Prop :=
  huff_New.l1 d_0 i_1 t6 t8 t9 Q w

def huff_New.j2 (d_0 : Sl) (i_1 : Bool) (t6 : Bool) (t8 : (Option Addr)) (Q : Value → World → Prop) (w : World) : Prop :=
  huff_New.j5 d_0 i_1 t6 t8 1 Q w

def huff_New.j1 (d_0 : Sl) (i_1 : Bool) (t6 : Bool) (t7 : Int) (Q : Value → World → Prop) (w : World) : Prop :=
  br ((t7 : Int) != 0) (
  Q (.tuple ⟨[.pointer none, .int .i64 t7]⟩) w) (
  lt (⟨World.heapSize w, 0, none⟩ : Addr) fun a28 =>
  lt (World.alloc w (.cells ⟨[]⟩ 3)) fun w29 =>
  rdO w29 d_0.a (d_0.len * 1) fun c30 =>
  apK Try.prog 3 w29 (some a28) 0 0 d_0.len c30 fun s31 w32 =>
  Calls Try.prog 47 ⟨[.slice d_0.a d_0.len d_0.cap]⟩ w32 fun e33 w34 =>
  ∃ r35 : (Array Value), e33 = .returned (.agg r35) ∧
  (r35).size = 16 ∧
  lt (⟨World.heapSize w34, 0, none⟩ : Addr) fun a36 =>
  lt (World.alloc w34 (.cells (⟨(spl [.slice s31.a s31.len s31.cap, .slice none 0 0, .int .i64 0, .int .i64 0, .int .i64 0, .int .i64 0, .int .i64 0, .int .i64 0, .int .i64 0, .int .i64 0, .int .i64 0, .int .i64 0, .int .i64 0, .int .i64 0, .int .i64 0, .int .i64 0, .int .i64 0, .int .i64 0, .slice none 0 0] 2 r35)⟩ : Array Value) 89)) fun w37 =>
  huff_New.j2 d_0 i_1 t6 (some a36) Q w37)

def huff_New (d_0 : Sl) (i_1 : Bool) (Q : Value → World → Prop) (w : World) : Prop :=
  Calls Try.prog 13 ⟨[.slice d_0.a d_0.len d_0.cap]⟩ w fun e38 w39 =>
  ∃ r40 : Bool, ∃ r41 : Int, e38 = .returned (.tuple ⟨[.bool r40, .int .i64 r41]⟩) ∧
  huff_New.j1 d_0 i_1 r40 r41 Q w39

theorem huff_New.ok (d_0 : Sl) (i_1 : Bool) (Q : Value → World → Prop) (w : World) (h : huff_New d_0 i_1 Q w) : Calls Try.prog 16 ⟨[.slice d_0.a d_0.len d_0.cap, .bool i_1]⟩ w (Ret Q) := by
  refine calls_of_wpc [.tmp 4, .tmp 5] Try.func16 rfl rfl rfl rfl ?_
  refine wpc_pre2 hmix (fun ρ w => asL (ρ 0) fun d_0 => asB (ρ 1) fun i_1 => asB (ρ 6) fun t6 => asI .i64 (ρ 7) fun t7 => huff_New.j1 d_0 i_1 t6 t7 Q w) (Eq.mp (by kernel_rfl) h) ?_
  intro ρ w h
  obtain ⟨d_0, e0, h⟩ := asL_el h
  obtain ⟨i_1, e1, h⟩ := asB_el h
  obtain ⟨t6, e6, h⟩ := asB_el h
  obtain ⟨t7, e7, h⟩ := asI_el h
  refine reroot e0 (reroot (upd_other e1 rfl) (reroot (upd_other (upd_other e6 rfl) rfl) (reroot (upd_other (upd_other (upd_other e7 rfl) rfl) rfl) ?_)))
  refine wpc_pre2 hmix (fun ρ w => asL (ρ 0) fun d_0 => asB (ρ 1) fun i_1 => asB (ρ 6) fun t6 => asP (ρ 8) fun t8 => huff_New.j2 d_0 i_1 t6 t8 Q w) (Eq.mp (by kernel_rfl) h) ?_
  intro ρ w h
  obtain ⟨d_0, e0, h⟩ := asL_el h
  obtain ⟨i_1, e1, h⟩ := asB_el h
  obtain ⟨t6, e6, h⟩ := asB_el h
  obtain ⟨t8, e8, h⟩ := asP_el h
  refine reroot e0 (reroot (upd_other e1 rfl) (reroot (upd_other (upd_other e6 rfl) rfl) (reroot (upd_other (upd_other (upd_other e8 rfl) rfl) rfl) ?_)))
  refine wpc_seq (fun ρ w => asL (ρ 0) fun d_0 => asB (ρ 1) fun i_1 => asB (ρ 6) fun t6 => asP (ρ 8) fun t8 => huff_New.j3 d_0 i_1 t6 t8 Q w) ?_ ?_
  · skip
    refine wpc_seq (fun ρ w => asL (ρ 0) fun d_0 => asB (ρ 1) fun i_1 => asB (ρ 6) fun t6 => asP (ρ 8) fun t8 => asI .i64 (ρ 9) fun t9 => huff_New.j5 d_0 i_1 t6 t8 t9 Q w) ?_ ?_
    · skip
      exact pt_sound hmix _ (Eq.mp (by kernel_rfl) h)
    · intro ρ w h
      obtain ⟨d_0, e0, h⟩ := asL_el h
      obtain ⟨i_1, e1, h⟩ := asB_el h
      obtain ⟨t6, e6, h⟩ := asB_el h
      obtain ⟨t8, e8, h⟩ := asP_el h
      obtain ⟨t9, e9, h⟩ := asI_el h
      refine reroot e0 (reroot (upd_other e1 rfl) (reroot (upd_other (upd_other e6 rfl) rfl) (reroot (upd_other (upd_other (upd_other e8 rfl) rfl) rfl) (reroot (upd_other (upd_other (upd_other (upd_other e9 rfl) rfl) rfl) rfl) ?_))))
      refine wpc_block ?_
      obtain ⟨I, μ, hI, hr⟩ := h
      refine wpc_loopS (α := Int) (fun s ρ => ρ 9 = .int .i64 s ∧ ρ 0 = .slice d_0.a d_0.len d_0.cap ∧ ρ 1 = .bool i_1 ∧ ρ 6 = .bool t6 ∧ ρ 8 = .pointer t8) (fun s w => I s w) (fun s w => μ s w) t9 ⟨rfl, rfl, rfl, rfl, rfl⟩ hI ?_
      rintro t9 ρ w ⟨e9, e0, e1, e6, e8⟩ hI
      have h := hr t9 w hI
      clear hr
      obtain ⟨nx1, hnx⟩ : ∃ nx : Sl → Bool → Bool → (Option Addr) → Int → World → Prop, nx = (fun d_0' i_1' t6' t8' t9' w' => (d_0' = d_0 ∧ i_1' = i_1 ∧ t6' = t6 ∧ t8' = t8) ∧ I t9' w' ∧ μ t9' w' < μ t9 w) := ⟨_, rfl⟩
      rw [← hnx] at h
      refine wpc_norm (M := fun ρ w => asL (ρ 0) fun d_0 => asB (ρ 1) fun i_1 => asB (ρ 6) fun t6 => asP (ρ 8) fun t8 => asI .i64 (ρ 9) fun t9 => nx1 d_0 i_1 t6 t8 t9 w) ?_ (fun ρ w h => ?_)
      · skip
        refine reroot e0 (reroot (upd_other e1 rfl) (reroot (upd_other (upd_other e6 rfl) rfl) (reroot (upd_other (upd_other (upd_other e8 rfl) rfl) rfl) (reroot (upd_other (upd_other (upd_other (upd_other e9 rfl) rfl) rfl) rfl) ?_))))
        refine wpc_seq (fun ρ w => asL (ρ 0) fun d_0 => asB (ρ 1) fun i_1 => asB (ρ 6) fun t6 => asP (ρ 8) fun t8 => asI .i64 (ρ 9) fun t9 => huff_New.j6 d_0 i_1 t6 t8 t9 Q nx1 w) ?_ ?_
        · skip
          exact pt_sound hmix _ (Eq.mp (by kernel_rfl) h)
        · intro ρ w h
          obtain ⟨d_0, e0, h⟩ := asL_el h
          obtain ⟨i_1, e1, h⟩ := asB_el h
          obtain ⟨t6, e6, h⟩ := asB_el h
          obtain ⟨t8, e8, h⟩ := asP_el h
          obtain ⟨t9, e9, h⟩ := asI_el h
          refine reroot e0 (reroot (upd_other e1 rfl) (reroot (upd_other (upd_other e6 rfl) rfl) (reroot (upd_other (upd_other (upd_other e8 rfl) rfl) rfl) (reroot (upd_other (upd_other (upd_other (upd_other e9 rfl) rfl) rfl) rfl) ?_))))
          refine wpc_seq (fun ρ w => asL (ρ 0) fun d_0 => asB (ρ 1) fun i_1 => asB (ρ 6) fun t6 => asP (ρ 8) fun t8 => asI .i64 (ρ 9) fun t9 => huff_New.j7 d_0 i_1 t6 t8 t9 Q nx1 w) ?_ ?_
          · skip
            refine wpc_block ?_
            refine wpc_seq (fun ρ w => asL (ρ 0) fun d_0 => asB (ρ 1) fun i_1 => asB (ρ 6) fun t6 => asP (ρ 8) fun t8 => asI .i64 (ρ 9) fun t9 => asL (ρ 31) fun t31 => asI .i64 (ρ 32) fun t32 => asI .i64 (ρ 33) fun t33 => huff_New.j8 d_0 i_1 t6 t8 t9 t31 t32 t33 Q nx1 w) ?_ ?_
            · skip
              exact pt_sound hmix _ (Eq.mp (by kernel_rfl) h)
            · intro ρ w h
              obtain ⟨d_0, e0, h⟩ := asL_el h
              obtain ⟨i_1, e1, h⟩ := asB_el h
              obtain ⟨t6, e6, h⟩ := asB_el h
              obtain ⟨t8, e8, h⟩ := asP_el h
              obtain ⟨t9, e9, h⟩ := asI_el h
              obtain ⟨t31, e31, h⟩ := asL_el h
              obtain ⟨t32, e32, h⟩ := asI_el h
              obtain ⟨t33, e33, h⟩ := asI_el h
              refine reroot e0 (reroot (upd_other e1 rfl) (reroot (upd_other (upd_other e6 rfl) rfl) (reroot (upd_other (upd_other (upd_other e8 rfl) rfl) rfl) (reroot (upd_other (upd_other (upd_other (upd_other e9 rfl) rfl) rfl) rfl) (reroot (upd_other (upd_other (upd_other (upd_other (upd_other e31 rfl) rfl) rfl) rfl) rfl) (reroot (upd_other (upd_other (upd_other (upd_other (upd_other (upd_other e32 rfl) rfl) rfl) rfl) rfl) rfl) (reroot (upd_other (upd_other (upd_other (upd_other (upd_other (upd_other (upd_other e33 rfl) rfl) rfl) rfl) rfl) rfl) rfl) ?_)))))))
              refine wpc_block ?_
              obtain ⟨I, μ, hI, hr⟩ := h
              refine wpc_loopS (α := Int) (fun s ρ => ρ 33 = .int .i64 s ∧ ρ 0 = .slice d_0.a d_0.len d_0.cap ∧ ρ 1 = .bool i_1 ∧ ρ 6 = .bool t6 ∧ ρ 8 = .pointer t8 ∧ ρ 9 = .int .i64 t9 ∧ ρ 31 = .slice t31.a t31.len t31.cap ∧ ρ 32 = .int .i64 t32) (fun s w => I s w) (fun s w => μ s w) t33 ⟨rfl, rfl, rfl, rfl, rfl, rfl, rfl, rfl⟩ hI ?_
              rintro t33 ρ w ⟨e33, e0, e1, e6, e8, e9, e31, e32⟩ hI
              have h := hr t33 w hI
              clear hr
              obtain ⟨nx2, hnx⟩ : ∃ nx : Sl → Bool → Bool → (Option Addr) → Int → Sl → Int → Int → World → Prop, nx = (fun d_0' i_1' t6' t8' t9' t31' t32' t33' w' => (d_0' = d_0 ∧ i_1' = i_1 ∧ t6' = t6 ∧ t8' = t8 ∧ t9' = t9 ∧ t31' = t31 ∧ t32' = t32) ∧ I t33' w' ∧ μ t33' w' < μ t33 w) := ⟨_, rfl⟩
              rw [← hnx] at h
              refine wpc_norm (M := fun ρ w => asL (ρ 0) fun d_0 => asB (ρ 1) fun i_1 => asB (ρ 6) fun t6 => asP (ρ 8) fun t8 => asI .i64 (ρ 9) fun t9 => asL (ρ 31) fun t31 => asI .i64 (ρ 32) fun t32 => asI .i64 (ρ 33) fun t33 => nx2 d_0 i_1 t6 t8 t9 t31 t32 t33 w) ?_ (fun ρ w h => ?_)
              · skip
                refine reroot e0 (reroot (upd_other e1 rfl) (reroot (upd_other (upd_other e6 rfl) rfl) (reroot (upd_other (upd_other (upd_other e8 rfl) rfl) rfl) (reroot (upd_other (upd_other (upd_other (upd_other e9 rfl) rfl) rfl) rfl) (reroot (upd_other (upd_other (upd_other (upd_other (upd_other e31 rfl) rfl) rfl) rfl) rfl) (reroot (upd_other (upd_other (upd_other (upd_other (upd_other (upd_other e32 rfl) rfl) rfl) rfl) rfl) rfl) (reroot (upd_other (upd_other (upd_other (upd_other (upd_other (upd_other (upd_other e33 rfl) rfl) rfl) rfl) rfl) rfl) rfl) ?_)))))))
                exact pt_sound hmix _ (Eq.mp (by kernel_rfl) h)
              · skip
                obtain ⟨d_0', e0', h⟩ := asL_el h
                obtain ⟨i_1', e1', h⟩ := asB_el h
                obtain ⟨t6', e6', h⟩ := asB_el h
                obtain ⟨t8', e8', h⟩ := asP_el h
                obtain ⟨t9', e9', h⟩ := asI_el h
                obtain ⟨t31', e31', h⟩ := asL_el h
                obtain ⟨t32', e32', h⟩ := asI_el h
                obtain ⟨t33', e33', h⟩ := asI_el h
                rw [hnx] at h
                obtain ⟨hu, hI2, hμ⟩ := h
                obtain ⟨rfl, rfl, rfl, rfl, rfl, rfl, rfl⟩ := hu
                exact ⟨t33', ⟨e33', e0', e1', e6', e8', e9', e31', e32'⟩, hI2, hμ⟩
          · intro ρ w h
            obtain ⟨d_0, e0, h⟩ := asL_el h
            obtain ⟨i_1, e1, h⟩ := asB_el h
            obtain ⟨t6, e6, h⟩ := asB_el h
            obtain ⟨t8, e8, h⟩ := asP_el h
            obtain ⟨t9, e9, h⟩ := asI_el h
            refine reroot e0 (reroot (upd_other e1 rfl) (reroot (upd_other (upd_other e6 rfl) rfl) (reroot (upd_other (upd_other (upd_other e8 rfl) rfl) rfl) (reroot (upd_other (upd_other (upd_other (upd_other e9 rfl) rfl) rfl) rfl) ?_))))
            exact pt_sound hmix _ (Eq.mp (by kernel_rfl) h)
      · skip
        obtain ⟨d_0', e0', h⟩ := asL_el h
        obtain ⟨i_1', e1', h⟩ := asB_el h
        obtain ⟨t6', e6', h⟩ := asB_el h
        obtain ⟨t8', e8', h⟩ := asP_el h
        obtain ⟨t9', e9', h⟩ := asI_el h
        rw [hnx] at h
        obtain ⟨hu, hI2, hμ⟩ := h
        obtain ⟨rfl, rfl, rfl, rfl⟩ := hu
        exact ⟨t9', ⟨e9', e0', e1', e6', e8'⟩, hI2, hμ⟩
  · intro ρ w h
    obtain ⟨d_0, e0, h⟩ := asL_el h
    obtain ⟨i_1, e1, h⟩ := asB_el h
    obtain ⟨t6, e6, h⟩ := asB_el h
    obtain ⟨t8, e8, h⟩ := asP_el h
    refine reroot e0 (reroot (upd_other e1 rfl) (reroot (upd_other (upd_other e6 rfl) rfl) (reroot (upd_other (upd_other (upd_other e8 rfl) rfl) rfl) ?_)))
    refine wpc_seq (fun ρ w => asL (ρ 0) fun d_0 => asP (ρ 8) fun t8 => huff_New.j4 d_0 t8 Q w) ?_ ?_
    · skip
      exact pt_sound hmix _ (Eq.mp (by kernel_rfl) h)
    · intro ρ w h
      obtain ⟨d_0, e0, h⟩ := asL_el h
      obtain ⟨t8, e8, h⟩ := asP_el h
      refine reroot e0 (reroot (upd_other e8 rfl) ?_)
      exact pt_sound hmix _ (Eq.mp (by kernel_rfl) h)

/-! (*trove/huff.Code).longest -/
def huff_Code_longest (c_0 : (Option Addr)) (Q : Value → World → Prop) (w : World) : Prop :=
  nz c_0 fun a1 =>
  ldL w (Addr.add a1 18) fun x2 =>
  br ((((x2.len : Nat) : Int) : Int) == 0) (
  Q (.int .i64 1) w) (
  lt (World.drew w) fun w3 =>
  nz c_0 fun a4 =>
  ldL w3 (Addr.add a4 0) fun x5 =>
  nz c_0 fun a6 =>
  ldL w3 (Addr.add a6 18) fun x7 =>
  nz c_0 fun a8 =>
  ldL w3 (Addr.add a8 18) fun x9 =>
  lt (IntKind.i64.wrap (((x9.len : Nat) : Int) - 1)) fun x10 =>
  ixS x7.a x7.len x10 1 fun a11 =>
  ldI .i64 w3 a11 fun x12 =>
  ixS x5.a x5.len x12 1 fun a13 =>
  ldI .i64 w3 a13 fun x14 =>
  Q (.int .i64 x14) w3)

theorem huff_Code_longest.ok (c_0 : (Option Addr)) (Q : Value → World → Prop) (w : World) (h : huff_Code_longest c_0 Q w) : Calls Try.prog 53 ⟨[.pointer c_0]⟩ w (Ret Q) := by
  refine calls_of_wpc [.tmp 2] Try.func53 rfl rfl rfl rfl ?_
  exact pt_sound hmix _ (Eq.mp (by kernel_rfl) h)

/-! (*trove/huff.Code).Next -/
def huff_Code_Next.j3  (Q : Value → World → Prop) (w : World) : Prop :=
  Q (.tuple ⟨[.int .i64 0, .int .i64 2]⟩) w

def huff_Code_Next.b1 (d_0 : (Option Addr)) (t9 : (Option Addr)) (t6 : Int) (t7 : Int) (t8 : Int) (t10 : Int) (Q : Value → World → Prop) (nx1 : (Option Addr) → (Option Addr) → Int → Int → Int → Int → World → Prop) (w : World) : Prop :=
  Calls Try.prog 53 ⟨[.pointer d_0]⟩ w fun e1 w2 =>
  ∃ r3 : Int, e1 = .returned (.int .i64 r3) ∧
  br (decide ((t10 : Int) ≤ r3)) (
  Calls Try.prog 52 ⟨[.pointer t9, .int .i64 1]⟩ w2 fun e4 w5 =>
  ∃ r6 : Int, ∃ r7 : Bool, e4 = .returned (.tuple ⟨[.int .i64 r6, .bool r7]⟩) ∧
  br (!r7) (
  Q (.tuple ⟨[.int .i64 0, .int .i64 3]⟩) w5) (
  (0 : Int) ≤ 1 ∧
  lt (shlV .i64 t6 1) fun x8 =>
  lt (orV .i64 x8 r6) fun x9 =>
  (0 : Int) ≤ 1 ∧
  lt (shlV .i64 t7 1) fun x10 =>
  lt (IntKind.i64.wrap (x9 - x10)) fun x11 =>
  nz d_0 fun a12 =>
  ixA (Addr.add a12 2) 16 t10 1 fun a13 =>
  ldI .i64 w5 a13 fun x14 =>
  br (decide ((x11 : Int) < x14)) (
  nz d_0 fun a15 =>
  ldL w5 (Addr.add a15 18) fun x16 =>
  lt (IntKind.i64.wrap (t8 + x11)) fun x17 =>
  ixS x16.a x16.len x17 1 fun a18 =>
  ldI .i64 w5 a18 fun x19 =>
  Q (.tuple ⟨[.int .i64 x19, .int .i64 0]⟩) w5) (
  nz d_0 fun a20 =>
  ixA (Addr.add a20 2) 16 t10 1 fun a21 =>
  ldI .i64 w5 a21 fun x22 =>
  lt (IntKind.i64.wrap (t8 + x22)) fun x23 =>
  nz d_0 fun a24 =>
  ixA (Addr.add a24 2) 16 t10 1 fun a25 =>
  ldI .i64 w5 a25 fun x26 =>
  lt (IntKind.i64.wrap (x10 + x26)) fun x27 =>
  lt (IntKind.i64.wrap (t10 + 1)) fun x28 =>
  nx1 d_0 t9 x9 x27 x23 x28 w5))) (
  huff_Code_Next.j3 Q w2)

def huff_Code_Next.l1 (d_0 : (Option Addr)) (t9 : (Option Addr)) (t6 : Int) (t7 : Int) (t8 : Int) (t10 : Int) (Q : Value → World → Prop) (w : World) : Prop :=
  ∃ (I : Int → Int → Int → Int → World → Prop) (μ : Int → Int → Int → Int → World → Nat), I t6 t7 t8 t10 w ∧ ∀ t6 : Int, ∀ t7 : Int, ∀ t8 : Int, ∀ t10 : Int, ∀ w : World, I t6 t7 t8 t10 w → huff_Code_Next.b1 d_0 t9 t6 t7 t8 t10 Q (fun d_0' t9' t6' t7' t8' t10' w' => (d_0' = d_0 ∧ t9' = t9) ∧ I t6' t7' t8' t10' w' ∧ μ t6' t7' t8' t10' w' < μ t6 t7 t8 t10 w) w

def huff_Code_Next.j4 (d_0 : (Option Addr)) (t6 : Int) (t7 : Int) (t8 : Int) (t9 : (Option Addr)) (t10 : Int) (Q : Value → World → Prop) (w : World) : Prop :=
  huff_Code_Next.l1 d_0 t9 t6 t7 t8 t10 Q w

def huff_Code_Next.j2 (d_0 : (Option Addr)) (t6 : Int) (t7 : Int) (t8 : Int) (t9 : (Option Addr)) (Q : Value → World → Prop) (w : World) : Prop :=
  huff_Code_Next.j4 d_0 t6 t7 t8 t9 1 Q w

def huff_Code_Next.j1 (d_0 : (Option Addr)) (i_1 : (Option Addr)) (Q : Value → World → Prop) (w : World) : Prop :=
  huff_Code_Next.j2 d_0 0 0 0 i_1 Q w

def huff_Code_Next (d_0 : (Option Addr)) (i_1 : (Option Addr)) (Q : Value → World → Prop) (w : World) : Prop :=
  huff_Code_Next.j1 d_0 i_1 Q w

theorem huff_Code_Next.ok (d_0 : (Option Addr)) (i_1 : (Option Addr)) (Q : Value → World → Prop) (w : World) (h : huff_Code_Next d_0 i_1 Q w) : Calls Try.prog 23 ⟨[.pointer d_0, .pointer i_1]⟩ w (Ret Q) := by
  refine calls_of_wpc [.tmp 4, .tmp 5] Try.func23 rfl rfl rfl rfl ?_
  refine wpc_seq (fun ρ w => asP (ρ 0) fun d_0 => asP (ρ 1) fun i_1 => huff_Code_Next.j1 d_0 i_1 Q w) ?_ ?_
  · skip
    exact pt_sound hmix _ (Eq.mp (by kernel_rfl) h)
  · intro ρ w h
    obtain ⟨d_0, e0, h⟩ := asP_el h
    obtain ⟨i_1, e1, h⟩ := asP_el h
    refine reroot e0 (reroot (upd_other e1 rfl) ?_)
    refine wpc_pre2 hmix (fun ρ w => asP (ρ 0) fun d_0 => asI .i64 (ρ 6) fun t6 => asI .i64 (ρ 7) fun t7 => asI .i64 (ρ 8) fun t8 => asC1 52 (ρ 9) fun t9 => huff_Code_Next.j2 d_0 t6 t7 t8 t9 Q w) (Eq.mp (by kernel_rfl) h) ?_
    intro ρ w h
    obtain ⟨d_0, e0, h⟩ := asP_el h
    obtain ⟨t6, e6, h⟩ := asI_el h
    obtain ⟨t7, e7, h⟩ := asI_el h
    obtain ⟨t8, e8, h⟩ := asI_el h
    obtain ⟨t9, e9, h⟩ := asC1_el h
    refine reroot e0 (reroot (upd_other e6 rfl) (reroot (upd_other (upd_other e7 rfl) rfl) (reroot (upd_other (upd_other (upd_other e8 rfl) rfl) rfl) (reroot (upd_other (upd_other (upd_other (upd_other e9 rfl) rfl) rfl) rfl) ?_))))
    refine wpc_seq (fun ρ w =>  huff_Code_Next.j3  Q w) ?_ ?_
    · skip
      refine wpc_seq (fun ρ w => asP (ρ 0) fun d_0 => asI .i64 (ρ 6) fun t6 => asI .i64 (ρ 7) fun t7 => asI .i64 (ρ 8) fun t8 => asC1 52 (ρ 9) fun t9 => asI .i64 (ρ 10) fun t10 => huff_Code_Next.j4 d_0 t6 t7 t8 t9 t10 Q w) ?_ ?_
      · skip
        exact pt_sound hmix _ (Eq.mp (by kernel_rfl) h)
      · intro ρ w h
        obtain ⟨d_0, e0, h⟩ := asP_el h
        obtain ⟨t6, e6, h⟩ := asI_el h
        obtain ⟨t7, e7, h⟩ := asI_el h
        obtain ⟨t8, e8, h⟩ := asI_el h
        obtain ⟨t9, e9, h⟩ := asC1_el h
        obtain ⟨t10, e10, h⟩ := asI_el h
        refine reroot e0 (reroot (upd_other e6 rfl) (reroot (upd_other (upd_other e7 rfl) rfl) (reroot (upd_other (upd_other (upd_other e8 rfl) rfl) rfl) (reroot (upd_other (upd_other (upd_other (upd_other e9 rfl) rfl) rfl) rfl) (reroot (upd_other (upd_other (upd_other (upd_other (upd_other e10 rfl) rfl) rfl) rfl) rfl) ?_)))))
        refine wpc_block ?_
        obtain ⟨I, μ, hI, hr⟩ := h
        refine wpc_loopS (α := Int × Int × Int × Int) (fun s ρ => ρ 6 = .int .i64 s.1 ∧ ρ 7 = .int .i64 s.2.1 ∧ ρ 8 = .int .i64 s.2.2.1 ∧ ρ 10 = .int .i64 s.2.2.2 ∧ ρ 0 = .pointer d_0 ∧ ρ 9 = .func (.func 52) ⟨[.pointer t9]⟩ ⟨[]⟩) (fun s w => I s.1 s.2.1 s.2.2.1 s.2.2.2 w) (fun s w => μ s.1 s.2.1 s.2.2.1 s.2.2.2 w) (t6, t7, t8, t10) ⟨rfl, rfl, rfl, rfl, rfl, rfl⟩ hI ?_
        rintro ⟨t6, t7, t8, t10⟩ ρ w ⟨e6, e7, e8, e10, e0, e9⟩ hI
        have h := hr t6 t7 t8 t10 w hI
        clear hr
        obtain ⟨nx1, hnx⟩ : ∃ nx : (Option Addr) → (Option Addr) → Int → Int → Int → Int → World → Prop, nx = (fun d_0' t9' t6' t7' t8' t10' w' => (d_0' = d_0 ∧ t9' = t9) ∧ I t6' t7' t8' t10' w' ∧ μ t6' t7' t8' t10' w' < μ t6 t7 t8 t10 w) := ⟨_, rfl⟩
        rw [← hnx] at h
        refine wpc_norm (M := fun ρ w => asP (ρ 0) fun d_0 => asC1 52 (ρ 9) fun t9 => asI .i64 (ρ 6) fun t6 => asI .i64 (ρ 7) fun t7 => asI .i64 (ρ 8) fun t8 => asI .i64 (ρ 10) fun t10 => nx1 d_0 t9 t6 t7 t8 t10 w) ?_ (fun ρ w h => ?_)
        · skip
          refine reroot e0 (reroot (upd_other e6 rfl) (reroot (upd_other (upd_other e7 rfl) rfl) (reroot (upd_other (upd_other (upd_other e8 rfl) rfl) rfl) (reroot (upd_other (upd_other (upd_other (upd_other e9 rfl) rfl) rfl) rfl) (reroot (upd_other (upd_other (upd_other (upd_other (upd_other e10 rfl) rfl) rfl) rfl) rfl) ?_)))))
          exact pt_sound hmix _ (Eq.mp (by kernel_rfl) h)
        · skip
          obtain ⟨d_0', e0', h⟩ := asP_el h
          obtain ⟨t9', e9', h⟩ := asC1_el h
          obtain ⟨t6', e6', h⟩ := asI_el h
          obtain ⟨t7', e7', h⟩ := asI_el h
          obtain ⟨t8', e8', h⟩ := asI_el h
          obtain ⟨t10', e10', h⟩ := asI_el h
          rw [hnx] at h
          obtain ⟨hu, hI2, hμ⟩ := h
          obtain ⟨rfl, rfl⟩ := hu
          exact ⟨(t6', t7', t8', t10'), ⟨e6', e7', e8', e10', e0', e9'⟩, hI2, hμ⟩
    · intro ρ w h
      exact pt_sound hmix _ (Eq.mp (by kernel_rfl) h)

/-! (*trove/huff.Code).Put -/
def huff_Code_Put (c_0 : (Option Addr)) (w_1 : (Option Addr)) (sym_2 : Int) (Q : Value → World → Prop) (w : World) : Prop :=
  br (decide ((sym_2 : Int) < 0)) (
  Q (.bool false) w) (
  nz c_0 fun a1 =>
  ldL w (Addr.add a1 0) fun x2 =>
  br (decide ((sym_2 : Int) ≥ ((x2.len : Nat) : Int))) (
  Q (.bool false) w) (
  nz c_0 fun a3 =>
  ldL w (Addr.add a3 0) fun x4 =>
  ixS x4.a x4.len sym_2 1 fun a5 =>
  ldI .i64 w a5 fun x6 =>
  br ((x6 : Int) == 0) (
  Q (.bool false) w) (
  lt (World.drew w) fun w7 =>
  nz c_0 fun a8 =>
  ldL w7 (Addr.add a8 1) fun x9 =>
  ixS x9.a x9.len sym_2 1 fun a10 =>
  ldI .i64 w7 a10 fun x11 =>
  nz c_0 fun a12 =>
  ldL w7 (Addr.add a12 0) fun x13 =>
  ixS x13.a x13.len sym_2 1 fun a14 =>
  ldI .i64 w7 a14 fun x15 =>
  Calls Try.prog 49 ⟨[.pointer w_1, .int .i64 x11, .int .i64 x15]⟩ w7 fun e16 w17 =>
  e16 = .returned (.tuple ⟨[]⟩) ∧
  Q (.bool true) w17)))

theorem huff_Code_Put.ok (c_0 : (Option Addr)) (w_1 : (Option Addr)) (sym_2 : Int) (Q : Value → World → Prop) (w : World) (h : huff_Code_Put c_0 w_1 sym_2 Q w) : Calls Try.prog 19 ⟨[.pointer c_0, .pointer w_1, .int .i64 sym_2]⟩ w (Ret Q) := by
  refine calls_of_wpc [.tmp 6] Try.func19 rfl rfl rfl rfl ?_
  exact pt_sound hmix _ (Eq.mp (by kernel_rfl) h)

/-! (*trove/huff.Code).Cost -/
def huff_Code_Cost.j2 (out_5 : Int) (Q : Value → World → Prop) (w : World) : Prop :=
  Q (.int .i64 out_5) w

def huff_Code_Cost.b1 (c_0 : (Option Addr)) (counts_1 : Sl) (t14 : Int) (out_5 : Int) (t15 : Int) (Q : Value → World → Prop) (nx1 : (Option Addr) → Sl → Int → Int → Int → World → Prop) (w : World) : Prop :=
  br (decide ((t15 : Int) < t14)) (
  lt (World.drew w) fun w1 =>
  ixS counts_1.a counts_1.len t15 1 fun a2 =>
  ldI .i64 w1 a2 fun x3 =>
  nz c_0 fun a4 =>
  ldL w1 (Addr.add a4 0) fun x5 =>
  ixS x5.a x5.len t15 1 fun a6 =>
  ldI .i64 w1 a6 fun x7 =>
  lt (IntKind.i64.wrap (x3 * x7)) fun x8 =>
  lt (IntKind.i64.wrap (out_5 + x8)) fun x9 =>
  lt (IntKind.i64.wrap (t15 + 1)) fun x10 =>
  nx1 c_0 counts_1 t14 x9 x10 w1) (
  huff_Code_Cost.j2 out_5 Q w)

def huff_Code_Cost.l1 (c_0 : (Option Addr)) (counts_1 : Sl) (t14 : Int) (out_5 : Int) (t15 : Int) (Q : Value → World → Prop) (w : World) : Prop :=
  ∃ (I : Int → Int → World → Prop) (μ : Int → Int → World → Nat), I out_5 t15 w ∧ ∀ out_5 : Int, ∀ t15 : Int, ∀ w : World, I out_5 t15 w → huff_Code_Cost.b1 c_0 counts_1 t14 out_5 t15 Q (fun c_0' counts_1' t14' out_5' t15' w' => (c_0' = c_0 ∧ counts_1' = counts_1 ∧ t14' = t14) ∧ I out_5' t15' w' ∧ μ out_5' t15' w' < μ out_5 t15 w) w

def huff_Code_Cost.j3 (c_0 : (Option Addr)) (counts_1 : Sl) (out_5 : Int) (t14 : Int) (t15 : Int) (Q : Value → World → Prop) (w : World) : Prop :=
  huff_Code_Cost.l1 c_0 counts_1 t14 out_5 t15 Q w

def huff_Code_Cost.j1 (c_0 : (Option Addr)) (counts_1 : Sl) (out_5 : Int) (Q : Value → World → Prop) (w : World) : Prop :=
  nz c_0 fun a11 =>
  ldL w (Addr.add a11 0) fun x12 =>
  lt (if (((x12.len : Nat) : Int) : Int) < ((counts_1.len : Nat) : Int) then ((x12.len : Nat) : Int) else ((counts_1.len : Nat) : Int)) fun x13 =>
  huff_Code_Cost.j3 c_0 counts_1 out_5 x13 0 Q w

def huff_Code_Cost (c_0 : (Option Addr)) (counts_1 : Sl) (Q : Value → World → Prop) (w : World) : Prop :=
  huff_Code_Cost.j1 c_0 counts_1 0 Q w

theorem huff_Code_Cost.ok (c_0 : (Option Addr)) (counts_1 : Sl) (Q : Value → World → Prop) (w : World) (h : huff_Code_Cost c_0 counts_1 Q w) : Calls Try.prog 17 ⟨[.pointer c_0, .slice counts_1.a counts_1.len counts_1.cap]⟩ w (Ret Q) := by
  refine calls_of_wpc [.tmp 4] Try.func17 rfl rfl rfl rfl ?_
  refine wpc_pre2 hmix (fun ρ w => asP (ρ 0) fun c_0 => asL (ρ 1) fun counts_1 => asI .i64 (ρ 5) fun out_5 => huff_Code_Cost.j1 c_0 counts_1 out_5 Q w) (Eq.mp (by kernel_rfl) h) ?_
  intro ρ w h
  obtain ⟨c_0, e0, h⟩ := asP_el h
  obtain ⟨counts_1, e1, h⟩ := asL_el h
  obtain ⟨out_5, e5, h⟩ := asI_el h
  refine reroot e0 (reroot (upd_other e1 rfl) (reroot (upd_other (upd_other e5 rfl) rfl) ?_))
  refine wpc_seq (fun ρ w => asI .i64 (ρ 5) fun out_5 => huff_Code_Cost.j2 out_5 Q w) ?_ ?_
  · skip
    refine wpc_seq (fun ρ w => asP (ρ 0) fun c_0 => asL (ρ 1) fun counts_1 => asI .i64 (ρ 5) fun out_5 => asI .i64 (ρ 14) fun t14 => asI .i64 (ρ 15) fun t15 => huff_Code_Cost.j3 c_0 counts_1 out_5 t14 t15 Q w) ?_ ?_
    · skip
      exact pt_sound hmix _ (Eq.mp (by kernel_rfl) h)
    · intro ρ w h
      obtain ⟨c_0, e0, h⟩ := asP_el h
      obtain ⟨counts_1, e1, h⟩ := asL_el h
      obtain ⟨out_5, e5, h⟩ := asI_el h
      obtain ⟨t14, e14, h⟩ := asI_el h
      obtain ⟨t15, e15, h⟩ := asI_el h
      refine reroot e0 (reroot (upd_other e1 rfl) (reroot (upd_other (upd_other e5 rfl) rfl) (reroot (upd_other (upd_other (upd_other e14 rfl) rfl) rfl) (reroot (upd_other (upd_other (upd_other (upd_other e15 rfl) rfl) rfl) rfl) ?_))))
      refine wpc_block ?_
      obtain ⟨I, μ, hI, hr⟩ := h
      refine wpc_loopS (α := Int × Int) (fun s ρ => ρ 5 = .int .i64 s.1 ∧ ρ 15 = .int .i64 s.2 ∧ ρ 0 = .pointer c_0 ∧ ρ 1 = .slice counts_1.a counts_1.len counts_1.cap ∧ ρ 14 = .int .i64 t14) (fun s w => I s.1 s.2 w) (fun s w => μ s.1 s.2 w) (out_5, t15) ⟨rfl, rfl, rfl, rfl, rfl⟩ hI ?_
      rintro ⟨out_5, t15⟩ ρ w ⟨e5, e15, e0, e1, e14⟩ hI
      have h := hr out_5 t15 w hI
      clear hr
      obtain ⟨nx1, hnx⟩ : ∃ nx : (Option Addr) → Sl → Int → Int → Int → World → Prop, nx = (fun c_0' counts_1' t14' out_5' t15' w' => (c_0' = c_0 ∧ counts_1' = counts_1 ∧ t14' = t14) ∧ I out_5' t15' w' ∧ μ out_5' t15' w' < μ out_5 t15 w) := ⟨_, rfl⟩
      rw [← hnx] at h
      refine wpc_norm (M := fun ρ w => asP (ρ 0) fun c_0 => asL (ρ 1) fun counts_1 => asI .i64 (ρ 14) fun t14 => asI .i64 (ρ 5) fun out_5 => asI .i64 (ρ 15) fun t15 => nx1 c_0 counts_1 t14 out_5 t15 w) ?_ (fun ρ w h => ?_)
      · skip
        refine reroot e0 (reroot (upd_other e1 rfl) (reroot (upd_other (upd_other e5 rfl) rfl) (reroot (upd_other (upd_other (upd_other e14 rfl) rfl) rfl) (reroot (upd_other (upd_other (upd_other (upd_other e15 rfl) rfl) rfl) rfl) ?_))))
        exact pt_sound hmix _ (Eq.mp (by kernel_rfl) h)
      · skip
        obtain ⟨c_0', e0', h⟩ := asP_el h
        obtain ⟨counts_1', e1', h⟩ := asL_el h
        obtain ⟨t14', e14', h⟩ := asI_el h
        obtain ⟨out_5', e5', h⟩ := asI_el h
        obtain ⟨t15', e15', h⟩ := asI_el h
        rw [hnx] at h
        obtain ⟨hu, hI2, hμ⟩ := h
        obtain ⟨rfl, rfl, rfl⟩ := hu
        exact ⟨(out_5', t15'), ⟨e5', e15', e0', e1', e14'⟩, hI2, hμ⟩
  · intro ρ w h
    obtain ⟨out_5, e5, h⟩ := asI_el h
    refine reroot e5 ?_
    exact pt_sound hmix _ (Eq.mp (by kernel_rfl) h)

end Go.Proofs.Ythdmmmfgjmmelaa
