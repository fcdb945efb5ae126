/- PRINTED BY gen.py (own work): what calls come to, and the proofs of it. -/
import Derived.Test.YtkajimndclhgaaaVcJ
import Derived.Test.YtkajimndclhgaaaProg
namespace Go.Proofs.Ytkajimndclhgaaa
open Go Go.Proofs
set_option linter.unusedVariables false
set_option maxRecDepth 100000

/-! trove/trovelaw8.known -/
def trovelaw8_known  (Q : Value → World → Prop) (w : World) : Prop :=
  ((⟨[.int .u8 97, .int .i64 0, .int .i64 0]⟩ : Array Value)).size = 3 ∧
  ((⟨[.int .u8 0, .int .i64 5, .int .i64 1]⟩ : Array Value)).size = 3 ∧
  lt (⟨World.heapSize w, 0, none⟩ : Addr) fun a1 =>
  lt (World.alloc w (.cells ⟨(spl (spl [.int .u8 0, .int .i64 0, .int .i64 0, .int .u8 0, .int .i64 0, .int .i64 0] 0 (⟨[.int .u8 97, .int .i64 0, .int .i64 0]⟩ : Array Value)) 3 (⟨[.int .u8 0, .int .i64 5, .int .i64 1]⟩ : Array Value))⟩ 78)) fun w2 =>
  Calls Try.prog 66 ⟨[.slice (some a1) 2 2, .int .i64 10]⟩ w2 fun e3 w4 =>
  ∃ r5 : Sl, ∃ r6 : Int, e3 = .returned (.tuple ⟨[.slice r5.a r5.len r5.cap, .int .i64 r6]⟩) ∧
  Calls Try.prog 66 ⟨[.slice (some a1) 2 2, .int .i64 5]⟩ w4 fun e7 w8 =>
  ∃ r9 : Sl, ∃ r10 : Int, e7 = .returned (.tuple ⟨[.slice r9.a r9.len r9.cap, .int .i64 r10]⟩) ∧
  br ((r6 : Int) == 0) (
  btS w8 r5.a r5.len fun x11 =>
  br (ByteArray.toList x11 == ByteArray.toList ({ data := #[97, 97, 97, 97, 97, 97] })) (
  br ((r10 : Int) == 5) (
  Calls Try.prog 70 ⟨[.slice (some a1) 2 2]⟩ w8 fun e12 w13 =>
  ∃ r14 : Int, e12 = .returned (.int .i64 r14) ∧
  br ((r14 : Int) == 6) (
  ((⟨[.int .u8 0, .int .i64 3, .int .i64 1]⟩ : Array Value)).size = 3 ∧
  lt (⟨World.heapSize w13, 0, none⟩ : Addr) fun a15 =>
  lt (World.alloc w13 (.cells ⟨(spl [.int .u8 0, .int .i64 0, .int .i64 0] 0 (⟨[.int .u8 0, .int .i64 3, .int .i64 1]⟩ : Array Value))⟩ 78)) fun w16 =>
  Calls Try.prog 68 ⟨[.slice (some a15) 1 1]⟩ w16 fun e17 w18 =>
  ∃ r19 : Int, e17 = .returned (.int .i64 r19) ∧
  br ((r19 : Int) == 2) (
  lt (⟨World.heapSize w18, 0, none⟩ : Addr) fun a20 =>
  lt (World.alloc w18 (.cells ⟨[.int .u8 97, .int .u8 98]⟩ 5)) fun w21 =>
  mkStr w21 (some a20) fun w22 =>
  Calls Try.prog 72 ⟨[.slice (some a20) 2 2, .int .i64 0]⟩ w22 fun e23 w24 =>
  ∃ r25 : Sl, e23 = .returned (.slice r25.a r25.len r25.cap) ∧
  Q (.bool ((((r25.len : Nat) : Int) : Int) == 2)) w24) (
  Q (.bool false) w18)) (
  Q (.bool false) w13)) (
  Q (.bool false) w8)) (
  Q (.bool false) w8)) (
  Q (.bool false) w8)

theorem trovelaw8_known.ok  (Q : Value → World → Prop) (w : World) (h : trovelaw8_known  Q w) : Calls Try.prog 64 ⟨[]⟩ w (Ret Q) := by
  refine calls_of_wpc [.tmp 0] Try.func64 rfl rfl rfl rfl ?_
  exact pt_sound hmix _ (Eq.mp (by kernel_rfl) h)

/-! trove/trovelaw8.of -/
def trovelaw8_of.j2 (out_3 : Sl) (Q : Value → World → Prop) (w : World) : Prop :=
  Q (.slice out_3.a out_3.len out_3.cap) w

def trovelaw8_of.b1 (l_0 : Sl) (out_3 : Sl) (i_4 : Int) (Q : Value → World → Prop) (nx1 : Sl → Sl → Int → World → Prop) (w : World) : Prop :=
  br (decide ((i_4 : Int) < ((l_0.len : Nat) : Int))) (
  ixS l_0.a l_0.len i_4 3 fun a1 =>
  ldA w a1 3 fun c2 =>
  (c2).size = 3 ∧
  lt (⟨World.heapSize w, 0, none⟩ : Addr) fun a3 =>
  lt (World.alloc w (.cells ⟨(spl [.int .u8 0, .int .i64 0, .int .i64 0] 0 c2)⟩ 158)) fun w4 =>
  rdO w4 (some a3) (1 * 3) fun c5 =>
  apK Try.prog 158 w4 out_3.a out_3.len out_3.cap 1 c5 fun s6 w7 =>
  lt (IntKind.i64.wrap (i_4 + 1)) fun x8 =>
  nx1 l_0 s6 x8 w7) (
  trovelaw8_of.j2 out_3 Q w)

def trovelaw8_of.l1 (l_0 : Sl) (out_3 : Sl) (i_4 : Int) (Q : Value → World → Prop) (w : World) : Prop :=
  ∃ (I : Sl → Int → World → Prop) (μ : Sl → Int → World → Nat), I out_3 i_4 w ∧ ∀ out_3 : Sl, ∀ i_4 : Int, ∀ w : World, I out_3 i_4 w → trovelaw8_of.b1 l_0 out_3 i_4 Q (fun l_0' out_3' i_4' w' => (l_0' = l_0) ∧ I out_3' i_4' w' ∧ μ out_3' i_4' w' < μ out_3 i_4 w) w

def trovelaw8_of.j3 (l_0 : Sl) (out_3 : Sl) (i_4 : Int) (Q : Value → World → Prop) (w : World) : Prop :=
  trovelaw8_of.l1 l_0 out_3 i_4 Q w

def trovelaw8_of.j1 (l_0 : Sl) (out_3 : Sl) (Q : Value → World → Prop) (w : World) : Prop :=
  trovelaw8_of.j3 l_0 out_3 0 Q w

def trovelaw8_of (l_0 : Sl) (Q : Value → World → Prop) (w : World) : Prop :=
  trovelaw8_of.j1 l_0 ⟨none, 0, 0⟩ Q w

theorem trovelaw8_of.ok (l_0 : Sl) (Q : Value → World → Prop) (w : World) (h : trovelaw8_of l_0 Q w) : Calls Try.prog 65 ⟨[.slice l_0.a l_0.len l_0.cap]⟩ w (Ret Q) := by
  refine calls_of_wpc [.tmp 2] Try.func65 rfl rfl rfl rfl ?_
  refine wpc_pre2 hmix (fun ρ w => asL (ρ 0) fun l_0 => asL (ρ 3) fun out_3 => trovelaw8_of.j1 l_0 out_3 Q w) (Eq.mp (by kernel_rfl) h) ?_
  intro ρ w h
  obtain ⟨l_0, e0, h⟩ := asL_el h
  obtain ⟨out_3, e3, h⟩ := asL_el h
  refine reroot e0 (reroot (upd_other e3 rfl) ?_)
  refine wpc_seq (fun ρ w => asL (ρ 3) fun out_3 => trovelaw8_of.j2 out_3 Q w) ?_ ?_
  · skip
    refine wpc_seq (fun ρ w => asL (ρ 0) fun l_0 => asL (ρ 3) fun out_3 => asI .i64 (ρ 4) fun i_4 => trovelaw8_of.j3 l_0 out_3 i_4 Q w) ?_ ?_
    · skip
      exact pt_sound hmix _ (Eq.mp (by kernel_rfl) h)
    · intro ρ w h
      obtain ⟨l_0, e0, h⟩ := asL_el h
      obtain ⟨out_3, e3, h⟩ := asL_el h
      obtain ⟨i_4, e4, h⟩ := asI_el h
      refine reroot e0 (reroot (upd_other e3 rfl) (reroot (upd_other (upd_other e4 rfl) rfl) ?_))
      refine wpc_block ?_
      obtain ⟨I, μ, hI, hr⟩ := h
      refine wpc_loopS (α := Sl × Int) (fun s ρ => ρ 3 = .slice s.1.a s.1.len s.1.cap ∧ ρ 4 = .int .i64 s.2 ∧ ρ 0 = .slice l_0.a l_0.len l_0.cap) (fun s w => I s.1 s.2 w) (fun s w => μ s.1 s.2 w) (out_3, i_4) ⟨rfl, rfl, rfl⟩ hI ?_
      rintro ⟨out_3, i_4⟩ ρ w ⟨e3, e4, e0⟩ hI
      have h := hr out_3 i_4 w hI
      clear hr
      obtain ⟨nx1, hnx⟩ : ∃ nx : Sl → Sl → Int → World → Prop, nx = (fun l_0' out_3' i_4' w' => (l_0' = l_0) ∧ I out_3' i_4' w' ∧ μ out_3' i_4' w' < μ out_3 i_4 w) := ⟨_, rfl⟩
      rw [← hnx] at h
      refine wpc_norm (M := fun ρ w => asL (ρ 0) fun l_0 => asL (ρ 3) fun out_3 => asI .i64 (ρ 4) fun i_4 => nx1 l_0 out_3 i_4 w) ?_ (fun ρ w h => ?_)
      · skip
        refine reroot e0 (reroot (upd_other e3 rfl) (reroot (upd_other (upd_other e4 rfl) rfl) ?_))
        exact pt_sound hmix _ (Eq.mp (by kernel_rfl) h)
      · skip
        obtain ⟨l_0', e0', h⟩ := asL_el h
        obtain ⟨out_3', e3', h⟩ := asL_el h
        obtain ⟨i_4', e4', h⟩ := asI_el h
        rw [hnx] at h
        obtain ⟨hu, hI2, hμ⟩ := h
        obtain rfl := hu
        exact ⟨(out_3', i_4'), ⟨e3', e4', e0'⟩, hI2, hμ⟩
  · intro ρ w h
    obtain ⟨out_3, e3, h⟩ := asL_el h
    refine reroot e3 ?_
    exact pt_sound hmix _ (Eq.mp (by kernel_rfl) h)

/-! trove/trovelaw8.LzTokens -/
def trovelaw8_LzTokens (l_0 : Sl) (most_1 : Int) (Q : Value → World → Prop) (w : World) : Prop :=
  Calls Try.prog 64 ⟨[]⟩ w fun e1 w2 =>
  ∃ r3 : Bool, e1 = .returned (.bool r3) ∧
  br (!r3) (
  Q (.bool false) w2) (
  br (decide ((((l_0.len : Nat) : Int) : Int) > 3000)) (
  Q (.bool true) w2) (
  Calls Try.prog 65 ⟨[.slice l_0.a l_0.len l_0.cap]⟩ w2 fun e4 w5 =>
  ∃ r6 : Sl, e4 = .returned (.slice r6.a r6.len r6.cap) ∧
  Calls Try.prog 66 ⟨[.slice l_0.a l_0.len l_0.cap, .int .i64 most_1]⟩ w5 fun e7 w8 =>
  ∃ r9 : Sl, ∃ r10 : Int, e7 = .returned (.tuple ⟨[.slice r9.a r9.len r9.cap, .int .i64 r10]⟩) ∧
  Calls Try.prog 67 ⟨[.slice r6.a r6.len r6.cap, .int .i64 most_1]⟩ w8 fun e11 w12 =>
  ∃ r13 : Sl, ∃ r14 : Int, e11 = .returned (.tuple ⟨[.slice r13.a r13.len r13.cap, .int .i64 r14]⟩) ∧
  Calls Try.prog 68 ⟨[.slice l_0.a l_0.len l_0.cap]⟩ w12 fun e15 w16 =>
  ∃ r17 : Int, e15 = .returned (.int .i64 r17) ∧
  Calls Try.prog 69 ⟨[.slice r6.a r6.len r6.cap]⟩ w16 fun e18 w19 =>
  ∃ r20 : Int, e18 = .returned (.int .i64 r20) ∧
  br ((r17 : Int) == r20) (
  btS w19 r9.a r9.len fun x21 =>
  btS w19 r13.a r13.len fun x22 =>
  br (ByteArray.toList x21 == ByteArray.toList x22) (
  br ((r10 : Int) == r14) (
  Calls Try.prog 70 ⟨[.slice l_0.a l_0.len l_0.cap]⟩ w19 fun e23 w24 =>
  ∃ r25 : Int, e23 = .returned (.int .i64 r25) ∧
  Calls Try.prog 71 ⟨[.slice r6.a r6.len r6.cap]⟩ w24 fun e26 w27 =>
  ∃ r28 : Int, e26 = .returned (.int .i64 r28) ∧
  Q (.bool ((r25 : Int) == r28)) w27) (
  Q (.bool false) w19)) (
  Q (.bool false) w19)) (
  Q (.bool false) w19)))

theorem trovelaw8_LzTokens.ok (l_0 : Sl) (most_1 : Int) (Q : Value → World → Prop) (w : World) (h : trovelaw8_LzTokens l_0 most_1 Q w) : Calls Try.prog 11 ⟨[.slice l_0.a l_0.len l_0.cap, .int .i64 most_1]⟩ w (Ret Q) := by
  refine calls_of_wpc [.tmp 4] Try.func11 rfl rfl rfl rfl ?_
  exact pt_sound hmix _ (Eq.mp (by kernel_rfl) h)

/-! trove/trovelaw8.LzFinds -/
def trovelaw8_LzFinds (b_0 : Sl) (effort_1 : Int) (Q : Value → World → Prop) (w : World) : Prop :=
  Calls Try.prog 64 ⟨[]⟩ w fun e1 w2 =>
  ∃ r3 : Bool, e1 = .returned (.bool r3) ∧
  br (!r3) (
  Q (.bool false) w2) (
  br (decide ((((b_0.len : Nat) : Int) : Int) > 3000)) (
  Q (.bool true) w2) (
  Calls Try.prog 72 ⟨[.slice b_0.a b_0.len b_0.cap, .int .i64 effort_1]⟩ w2 fun e4 w5 =>
  ∃ r6 : Sl, e4 = .returned (.slice r6.a r6.len r6.cap) ∧
  Calls Try.prog 65 ⟨[.slice r6.a r6.len r6.cap]⟩ w5 fun e7 w8 =>
  ∃ r9 : Sl, e7 = .returned (.slice r9.a r9.len r9.cap) ∧
  Calls Try.prog 67 ⟨[.slice r9.a r9.len r9.cap, .int .i64 ((b_0.len : Nat) : Int)]⟩ w8 fun e10 w11 =>
  ∃ r12 : Sl, ∃ r13 : Int, e10 = .returned (.tuple ⟨[.slice r12.a r12.len r12.cap, .int .i64 r13]⟩) ∧
  br ((r13 : Int) != 0) (
  Q (.bool false) w11) (
  btS w11 r12.a r12.len fun x14 =>
  btS w11 b_0.a b_0.len fun x15 =>
  br (!(ByteArray.toList x14 == ByteArray.toList x15)) (
  Q (.bool false) w11) (
  br (decide ((((r6.len : Nat) : Int) : Int) > ((b_0.len : Nat) : Int))) (
  Q (.bool false) w11) (
  br (decide ((effort_1 : Int) > 0)) (
  Q (.bool true) w11) (
  Q (.bool ((((r6.len : Nat) : Int) : Int) == ((b_0.len : Nat) : Int))) w11))))))

theorem trovelaw8_LzFinds.ok (b_0 : Sl) (effort_1 : Int) (Q : Value → World → Prop) (w : World) (h : trovelaw8_LzFinds b_0 effort_1 Q w) : Calls Try.prog 12 ⟨[.slice b_0.a b_0.len b_0.cap, .int .i64 effort_1]⟩ w (Ret Q) := by
  refine calls_of_wpc [.tmp 4] Try.func12 rfl rfl rfl rfl ?_
  exact pt_sound hmix _ (Eq.mp (by kernel_rfl) h)

/-! trove/trovelaw8.LzRepeats -/
def trovelaw8_LzRepeats.j3 (t2 : Int) (t7 : Sl) (Q : Value → World → Prop) (w : World) : Prop :=
  Calls Try.prog 72 ⟨[.slice t7.a t7.len t7.cap, .int .i64 t2]⟩ w fun e1 w2 =>
  ∃ r3 : Sl, e1 = .returned (.slice r3.a r3.len r3.cap) ∧
  Calls Try.prog 65 ⟨[.slice r3.a r3.len r3.cap]⟩ w2 fun e4 w5 =>
  ∃ r6 : Sl, e4 = .returned (.slice r6.a r6.len r6.cap) ∧
  Calls Try.prog 67 ⟨[.slice r6.a r6.len r6.cap, .int .i64 ((t7.len : Nat) : Int)]⟩ w5 fun e7 w8 =>
  ∃ r9 : Sl, ∃ r10 : Int, e7 = .returned (.tuple ⟨[.slice r9.a r9.len r9.cap, .int .i64 r10]⟩) ∧
  br ((r10 : Int) == 0) (
  btS w8 r9.a r9.len fun x11 =>
  btS w8 t7.a t7.len fun x12 =>
  br (ByteArray.toList x11 == ByteArray.toList x12) (
  (200 : Int) ≠ 0 ∧
  lt (IntKind.i64.wrap (Int.tdiv ((t7.len : Nat) : Int) 200)) fun x13 =>
  lt (IntKind.i64.wrap (110 + x13)) fun x14 =>
  Q (.bool (decide ((((r3.len : Nat) : Int) : Int) ≤ x14))) w8) (
  Q (.bool false) w8)) (
  Q (.bool false) w8)

def trovelaw8_LzRepeats.b1 (d_0 : Sl) (i_1 : Int) (t2 : Int) (t7 : Sl) (t8 : Int) (Q : Value → World → Prop) (nx1 : Sl → Int → Int → Sl → Int → World → Prop) (w : World) : Prop :=
  br (decide ((t8 : Int) < i_1)) (
  rdO w d_0.a (d_0.len * 1) fun c15 =>
  apK Try.prog 5 w t7.a t7.len t7.cap d_0.len c15 fun s16 w17 =>
  lt (IntKind.i64.wrap (t8 + 1)) fun x18 =>
  nx1 d_0 i_1 t2 s16 x18 w17) (
  trovelaw8_LzRepeats.j3 t2 t7 Q w)

def trovelaw8_LzRepeats.l1 (d_0 : Sl) (i_1 : Int) (t2 : Int) (t7 : Sl) (t8 : Int) (Q : Value → World → Prop) (w : World) : Prop :=
  ∃ (I : Sl → Int → World → Prop) (μ : Sl → Int → World → Nat), I t7 t8 w ∧ ∀ t7 : Sl, ∀ t8 : Int, ∀ w : World, I t7 t8 w → trovelaw8_LzRepeats.b1 d_0 i_1 t2 t7 t8 Q (fun d_0' i_1' t2' t7' t8' w' => (d_0' = d_0 ∧ i_1' = i_1 ∧ t2' = t2) ∧ I t7' t8' w' ∧ μ t7' t8' w' < μ t7 t8 w) w

def trovelaw8_LzRepeats.j4 (d_0 : Sl) (i_1 : Int) (t2 : Int) (t7 : Sl) (t8 : Int) (Q : Value → World → Prop) (w : World) : Prop :=
  trovelaw8_LzRepeats.l1 d_0 i_1 t2 t7 t8 Q w

def trovelaw8_LzRepeats.j2 (d_0 : Sl) (i_1 : Int) (t2 : Int) (t7 : Sl) (Q : Value → World → Prop) (w : World) : Prop :=
  trovelaw8_LzRepeats.j4 d_0 i_1 t2 t7 0 Q w

def trovelaw8_LzRepeats.j1 (d_0 : Sl) (i_1 : Int) (t2 : Int) (Q : Value → World → Prop) (w : World) : Prop :=
  br ((((d_0.len : Nat) : Int) : Int) == 0) (
  Q (.bool true) w) (
  br (decide ((((d_0.len : Nat) : Int) : Int) > 100)) (
  Q (.bool true) w) (
  br (decide ((i_1 : Int) < 1)) (
  Q (.bool true) w) (
  br (decide ((i_1 : Int) > 60)) (
  Q (.bool true) w) (
  br (decide ((t2 : Int) < 200)) (
  Q (.bool true) w) (
  trovelaw8_LzRepeats.j2 d_0 i_1 t2 ⟨none, 0, 0⟩ Q w)))))

def trovelaw8_LzRepeats (d_0 : Sl) (i_1 : Int) (t2 : Int) (Q : Value → World → Prop) (w : World) : Prop :=
  Calls Try.prog 64 ⟨[]⟩ w fun e19 w20 =>
  ∃ r21 : Bool, e19 = .returned (.bool r21) ∧
  br (!r21) (
  Q (.bool false) w20) (
  trovelaw8_LzRepeats.j1 d_0 i_1 t2 Q w20)

theorem trovelaw8_LzRepeats.ok (d_0 : Sl) (i_1 : Int) (t2 : Int) (Q : Value → World → Prop) (w : World) (h : trovelaw8_LzRepeats d_0 i_1 t2 Q w) : Calls Try.prog 13 ⟨[.slice d_0.a d_0.len d_0.cap, .int .i64 i_1, .int .i64 t2]⟩ w (Ret Q) := by
  refine calls_of_wpc [.tmp 6] Try.func13 rfl rfl rfl rfl ?_
  refine wpc_pre2 hmix (fun ρ w => asL (ρ 0) fun d_0 => asI .i64 (ρ 1) fun i_1 => asI .i64 (ρ 2) fun t2 => trovelaw8_LzRepeats.j1 d_0 i_1 t2 Q w) (Eq.mp (by kernel_rfl) h) ?_
  intro ρ w h
  obtain ⟨d_0, e0, h⟩ := asL_el h
  obtain ⟨i_1, e1, h⟩ := asI_el h
  obtain ⟨t2, e2, h⟩ := asI_el h
  refine reroot e0 (reroot (upd_other e1 rfl) (reroot (upd_other (upd_other e2 rfl) rfl) ?_))
  refine wpc_pre2 hmix (fun ρ w => asL (ρ 0) fun d_0 => asI .i64 (ρ 1) fun i_1 => asI .i64 (ρ 2) fun t2 => asL (ρ 7) fun t7 => trovelaw8_LzRepeats.j2 d_0 i_1 t2 t7 Q w) (Eq.mp (by kernel_rfl) h) ?_
  intro ρ w h
  obtain ⟨d_0, e0, h⟩ := asL_el h
  obtain ⟨i_1, e1, h⟩ := asI_el h
  obtain ⟨t2, e2, h⟩ := asI_el h
  obtain ⟨t7, e7, h⟩ := asL_el h
  refine reroot e0 (reroot (upd_other e1 rfl) (reroot (upd_other (upd_other e2 rfl) rfl) (reroot (upd_other (upd_other (upd_other e7 rfl) rfl) rfl) ?_)))
  refine wpc_seq (fun ρ w => asI .i64 (ρ 2) fun t2 => asL (ρ 7) fun t7 => trovelaw8_LzRepeats.j3 t2 t7 Q w) ?_ ?_
  · skip
    refine wpc_seq (fun ρ w => asL (ρ 0) fun d_0 => asI .i64 (ρ 1) fun i_1 => asI .i64 (ρ 2) fun t2 => asL (ρ 7) fun t7 => asI .i64 (ρ 8) fun t8 => trovelaw8_LzRepeats.j4 d_0 i_1 t2 t7 t8 Q w) ?_ ?_
    · skip
      exact pt_sound hmix _ (Eq.mp (by kernel_rfl) h)
    · intro ρ w h
      obtain ⟨d_0, e0, h⟩ := asL_el h
      obtain ⟨i_1, e1, h⟩ := asI_el h
      obtain ⟨t2, e2, h⟩ := asI_el h
      obtain ⟨t7, e7, h⟩ := asL_el h
      obtain ⟨t8, e8, h⟩ := asI_el h
      refine reroot e0 (reroot (upd_other e1 rfl) (reroot (upd_other (upd_other e2 rfl) rfl) (reroot (upd_other (upd_other (upd_other e7 rfl) rfl) rfl) (reroot (upd_other (upd_other (upd_other (upd_other e8 rfl) rfl) rfl) rfl) ?_))))
      refine wpc_block ?_
      obtain ⟨I, μ, hI, hr⟩ := h
      refine wpc_loopS (α := Sl × Int) (fun s ρ => ρ 7 = .slice s.1.a s.1.len s.1.cap ∧ ρ 8 = .int .i64 s.2 ∧ ρ 0 = .slice d_0.a d_0.len d_0.cap ∧ ρ 1 = .int .i64 i_1 ∧ ρ 2 = .int .i64 t2) (fun s w => I s.1 s.2 w) (fun s w => μ s.1 s.2 w) (t7, t8) ⟨rfl, rfl, rfl, rfl, rfl⟩ hI ?_
      rintro ⟨t7, t8⟩ ρ w ⟨e7, e8, e0, e1, e2⟩ hI
      have h := hr t7 t8 w hI
      clear hr
      obtain ⟨nx1, hnx⟩ : ∃ nx : Sl → Int → Int → Sl → Int → World → Prop, nx = (fun d_0' i_1' t2' t7' t8' w' => (d_0' = d_0 ∧ i_1' = i_1 ∧ t2' = t2) ∧ I t7' t8' w' ∧ μ t7' t8' w' < μ t7 t8 w) := ⟨_, rfl⟩
      rw [← hnx] at h
      refine wpc_norm (M := fun ρ w => asL (ρ 0) fun d_0 => asI .i64 (ρ 1) fun i_1 => asI .i64 (ρ 2) fun t2 => asL (ρ 7) fun t7 => asI .i64 (ρ 8) fun t8 => nx1 d_0 i_1 t2 t7 t8 w) ?_ (fun ρ w h => ?_)
      · skip
        refine reroot e0 (reroot (upd_other e1 rfl) (reroot (upd_other (upd_other e2 rfl) rfl) (reroot (upd_other (upd_other (upd_other e7 rfl) rfl) rfl) (reroot (upd_other (upd_other (upd_other (upd_other e8 rfl) rfl) rfl) rfl) ?_))))
        exact pt_sound hmix _ (Eq.mp (by kernel_rfl) h)
      · skip
        obtain ⟨d_0', e0', h⟩ := asL_el h
        obtain ⟨i_1', e1', h⟩ := asI_el h
        obtain ⟨t2', e2', h⟩ := asI_el h
        obtain ⟨t7', e7', h⟩ := asL_el h
        obtain ⟨t8', e8', h⟩ := asI_el h
        rw [hnx] at h
        obtain ⟨hu, hI2, hμ⟩ := h
        obtain ⟨rfl, rfl, rfl⟩ := hu
        exact ⟨(t7', t8'), ⟨e7', e8', e0', e1', e2'⟩, hI2, hμ⟩
  · intro ρ w h
    obtain ⟨t2, e2, h⟩ := asI_el h
    obtain ⟨t7, e7, h⟩ := asL_el h
    refine reroot e2 (reroot (upd_other e7 rfl) ?_)
    exact pt_sound hmix _ (Eq.mp (by kernel_rfl) h)

/-! trove/trovelaw8.LzCuts -/
def trovelaw8_LzCuts.j4 (d_0 : Sl) (i_1 : Int) (t7 : Sl) (t10 : Int) (Q : Value → World → Prop) (w : World) : Prop :=
  lt (⟨World.heapSize w, 0, none⟩ : Addr) fun a1 =>
  lt (World.alloc w (.cells ⟨[]⟩ 78)) fun w2 =>
  bd i_1 t7.cap fun n3 =>
  lt (⟨cutA t7.a t7.cap 0 3, n3 - 0, t7.cap - 0⟩ : Sl) fun s4 =>
  rdO w2 s4.a (s4.len * 3) fun c5 =>
  apK Try.prog 78 w2 (some a1) 0 0 s4.len c5 fun s6 w7 =>
  ((⟨[.int .u8 7, .int .i64 0, .int .i64 0]⟩ : Array Value)).size = 3 ∧
  lt (⟨World.heapSize w7, 0, none⟩ : Addr) fun a8 =>
  lt (World.alloc w7 (.cells ⟨(spl [.int .u8 0, .int .i64 0, .int .i64 0] 0 (⟨[.int .u8 7, .int .i64 0, .int .i64 0]⟩ : Array Value))⟩ 78)) fun w9 =>
  rdO w9 (some a8) (1 * 3) fun c10 =>
  apK Try.prog 78 w9 s6.a s6.len s6.cap 1 c10 fun s11 w12 =>
  Calls Try.prog 65 ⟨[.slice s11.a s11.len s11.cap]⟩ w12 fun e13 w14 =>
  ∃ r15 : Sl, e13 = .returned (.slice r15.a r15.len r15.cap) ∧
  lt (IntKind.i64.wrap (((d_0.len : Nat) : Int) + 1)) fun x16 =>
  Calls Try.prog 67 ⟨[.slice r15.a r15.len r15.cap, .int .i64 x16]⟩ w14 fun e17 w18 =>
  ∃ r19 : Sl, ∃ r20 : Int, e17 = .returned (.tuple ⟨[.slice r19.a r19.len r19.cap, .int .i64 r20]⟩) ∧
  br ((r20 : Int) == 0) (
  lt (IntKind.i64.wrap (t10 + 1)) fun x21 =>
  br ((((r19.len : Nat) : Int) : Int) == x21) (
  ixS r19.a r19.len t10 1 fun a22 =>
  ldI .u8 w18 a22 fun x23 =>
  Q (.bool ((x23 : Int) == 7)) w18) (
  Q (.bool false) w18)) (
  Q (.bool false) w18)

def trovelaw8_LzCuts.j3 (d_0 : Sl) (i_1 : Int) (t7 : Sl) (t8 : Sl) (t9 : Int) (Q : Value → World → Prop) (w : World) : Prop :=
  bd i_1 t7.cap fun n24 =>
  lt (⟨cutA t7.a t7.cap 0 3, n24 - 0, t7.cap - 0⟩ : Sl) fun s25 =>
  Calls Try.prog 70 ⟨[.slice s25.a s25.len s25.cap]⟩ w fun e26 w27 =>
  ∃ r28 : Int, e26 = .returned (.int .i64 r28) ∧
  lt (World.drew w27) fun w29 =>
  br ((t9 : Int) != 0) (
  (Q (.bool false) w29) ∧ (
  Q (.bool false) w29)) (
  br ((r28 : Int) != ((t8.len : Nat) : Int)) (
  (Q (.bool false) w29) ∧ (
  Q (.bool false) w29)) (
  br (decide ((((t8.len : Nat) : Int) : Int) > ((d_0.len : Nat) : Int))) (
  (Q (.bool false) w29) ∧ (
  Q (.bool false) w29)) (
  bd ((t8.len : Nat) : Int) d_0.cap fun n30 =>
  lt (⟨cutA d_0.a d_0.cap 0 1, n30 - 0, d_0.cap - 0⟩ : Sl) fun s31 =>
  (btS w29 t8.a t8.len fun x32 =>
  btS w29 s31.a s31.len fun x33 =>
  br (!(ByteArray.toList x32 == ByteArray.toList x33)) (
  Q (.bool false) w29) (
  Calls Try.prog 70 ⟨[.slice t7.a t7.len t7.cap]⟩ w29 fun e34 w35 =>
  ∃ r36 : Int, e34 = .returned (.int .i64 r36) ∧
  br ((r36 : Int) != ((d_0.len : Nat) : Int)) (
  Q (.bool false) w35) (
  trovelaw8_LzCuts.j4 d_0 i_1 t7 r28 Q w35))) ∧ (
  btS w29 s31.a s31.len fun x37 =>
  btS w29 t8.a t8.len fun x38 =>
  br (!(ByteArray.toList x38 == ByteArray.toList x37)) (
  Q (.bool false) w29) (
  Calls Try.prog 70 ⟨[.slice t7.a t7.len t7.cap]⟩ w29 fun e39 w40 =>
  ∃ r41 : Int, e39 = .returned (.int .i64 r41) ∧
  br ((r41 : Int) != ((d_0.len : Nat) : Int)) (
  Q (.bool false) w40) (
  trovelaw8_LzCuts.j4 d_0 i_1 t7 r28 Q w40))))))

def trovelaw8_LzCuts.j2 (d_0 : Sl) (i_1 : Int) (t7 : Sl) (Q : Value → World → Prop) (w : World) : Prop :=
  br (decide ((i_1 : Int) > ((t7.len : Nat) : Int))) (
  Q (.bool true) w) (
  bd i_1 t7.cap fun n42 =>
  lt (⟨cutA t7.a t7.cap 0 3, n42 - 0, t7.cap - 0⟩ : Sl) fun s43 =>
  Calls Try.prog 66 ⟨[.slice s43.a s43.len s43.cap, .int .i64 ((d_0.len : Nat) : Int)]⟩ w fun e44 w45 =>
  ∃ r46 : Sl, ∃ r47 : Int, e44 = .returned (.tuple ⟨[.slice r46.a r46.len r46.cap, .int .i64 r47]⟩) ∧
  trovelaw8_LzCuts.j3 d_0 i_1 t7 r46 r47 Q w45)

def trovelaw8_LzCuts.j1 (d_0 : Sl) (i_1 : Int) (t2 : Int) (Q : Value → World → Prop) (w : World) : Prop :=
  br (decide ((((d_0.len : Nat) : Int) : Int) > 600)) (
  Q (.bool true) w) (
  br (decide ((i_1 : Int) < 0)) (
  Q (.bool true) w) (
  Calls Try.prog 72 ⟨[.slice d_0.a d_0.len d_0.cap, .int .i64 t2]⟩ w fun e48 w49 =>
  ∃ r50 : Sl, e48 = .returned (.slice r50.a r50.len r50.cap) ∧
  trovelaw8_LzCuts.j2 d_0 i_1 r50 Q w49))

def trovelaw8_LzCuts (d_0 : Sl) (i_1 : Int) (t2 : Int) (Q : Value → World → Prop) (w : World) : Prop :=
  Calls Try.prog 64 ⟨[]⟩ w fun e51 w52 =>
  ∃ r53 : Bool, e51 = .returned (.bool r53) ∧
  br (!r53) (
  Q (.bool false) w52) (
  trovelaw8_LzCuts.j1 d_0 i_1 t2 Q w52)

theorem trovelaw8_LzCuts.ok (d_0 : Sl) (i_1 : Int) (t2 : Int) (Q : Value → World → Prop) (w : World) (h : trovelaw8_LzCuts d_0 i_1 t2 Q w) : Calls Try.prog 14 ⟨[.slice d_0.a d_0.len d_0.cap, .int .i64 i_1, .int .i64 t2]⟩ w (Ret Q) := by
  refine calls_of_wpc [.tmp 6] Try.func14 rfl rfl rfl rfl ?_
  refine wpc_pre2 hmix (fun ρ w => asL (ρ 0) fun d_0 => asI .i64 (ρ 1) fun i_1 => asI .i64 (ρ 2) fun t2 => trovelaw8_LzCuts.j1 d_0 i_1 t2 Q w) (Eq.mp (by kernel_rfl) h) ?_
  intro ρ w h
  obtain ⟨d_0, e0, h⟩ := asL_el h
  obtain ⟨i_1, e1, h⟩ := asI_el h
  obtain ⟨t2, e2, h⟩ := asI_el h
  refine reroot e0 (reroot (upd_other e1 rfl) (reroot (upd_other (upd_other e2 rfl) rfl) ?_))
  refine wpc_pre2 hmix (fun ρ w => asL (ρ 0) fun d_0 => asI .i64 (ρ 1) fun i_1 => asL (ρ 7) fun t7 => trovelaw8_LzCuts.j2 d_0 i_1 t7 Q w) (Eq.mp (by kernel_rfl) h) ?_
  intro ρ w h
  obtain ⟨d_0, e0, h⟩ := asL_el h
  obtain ⟨i_1, e1, h⟩ := asI_el h
  obtain ⟨t7, e7, h⟩ := asL_el h
  refine reroot e0 (reroot (upd_other e1 rfl) (reroot (upd_other (upd_other e7 rfl) rfl) ?_))
  refine wpc_pre2 hmix (fun ρ w => asL (ρ 0) fun d_0 => asI .i64 (ρ 1) fun i_1 => asL (ρ 7) fun t7 => asL (ρ 8) fun t8 => asI .i64 (ρ 9) fun t9 => trovelaw8_LzCuts.j3 d_0 i_1 t7 t8 t9 Q w) (Eq.mp (by kernel_rfl) h) ?_
  intro ρ w h
  obtain ⟨d_0, e0, h⟩ := asL_el h
  obtain ⟨i_1, e1, h⟩ := asI_el h
  obtain ⟨t7, e7, h⟩ := asL_el h
  obtain ⟨t8, e8, h⟩ := asL_el h
  obtain ⟨t9, e9, h⟩ := asI_el h
  refine reroot e0 (reroot (upd_other e1 rfl) (reroot (upd_other (upd_other e7 rfl) rfl) (reroot (upd_other (upd_other (upd_other e8 rfl) rfl) rfl) (reroot (upd_other (upd_other (upd_other (upd_other e9 rfl) rfl) rfl) rfl) ?_))))
  refine wpc_pre2 hmix (fun ρ w => asL (ρ 0) fun d_0 => asI .i64 (ρ 1) fun i_1 => asL (ρ 7) fun t7 => asI .i64 (ρ 10) fun t10 => trovelaw8_LzCuts.j4 d_0 i_1 t7 t10 Q w) (Eq.mp (by kernel_rfl) h) ?_
  intro ρ w h
  obtain ⟨d_0, e0, h⟩ := asL_el h
  obtain ⟨i_1, e1, h⟩ := asI_el h
  obtain ⟨t7, e7, h⟩ := asL_el h
  obtain ⟨t10, e10, h⟩ := asI_el h
  refine reroot e0 (reroot (upd_other e1 rfl) (reroot (upd_other (upd_other e7 rfl) rfl) (reroot (upd_other (upd_other (upd_other e10 rfl) rfl) rfl) ?_)))
  exact pt_sound hmix _ (Eq.mp (by kernel_rfl) h)

end Go.Proofs.Ytkajimndclhgaaa
