/- Several texts as one. Own work. -/
import Derived.Test.YtkajimndclhgaaaRd
import Derived.Test.YtkajimndclhgaaaHuffN
import Derived.Test.YtkajimndclhgaaaBitD
import Derived.Test.YtkajimndclhgaaaHuffD
import Derived.Test.YtkajimndclhgaaaGInf
import Derived.Test.YtkajimndclhgaaaLzM
import Derived.Test.YtkajimndclhgaaaGInfR
import Derived.Test.YtkajimndclhgaaaGInfL
import Derived.Test.YtkajimndclhgaaaHuffF
import Derived.Test.YtkajimndclhgaaaLzX
import Derived.Test.YtkajimndclhgaaaBitH
/- DEFLATE read, as a law on lists of bits. Own work. -/
namespace Go.Proofs.Ytkajimndclhgaaa
open Go Go.Proofs
set_option linter.unusedVariables false
set_option linter.unusedSimpArgs false

/-- the place, what came out, the first fault -/
abbrev Z := Nat × List Int × Int

def zfail (e : Int) (z : Z) : Z := (z.1, z.2.1, if z.2.2 = 0 then e else z.2.2)
def zget (B : List Bool) (n : Int) (z : Z) : Int × Z :=
  if z.2.2 ≠ 0 then (0, z) else if 0 ≤ n ∧ n ≤ 24 ∧ n ≤ (B.length : Int) - z.1 then ((val ((B.drop z.1).take n.toNat) : Int), (z.1 + n.toNat, z.2.1, z.2.2)) else (0, (z.1, z.2.1, 3))
def zsym (ls : List Int) (B : List Bool) (z : Z) : Int × Z :=
  if z.2.2 ≠ 0 then (0, z) else ((hnext ls B z.1).1, ((hnext ls B z.1).2.2, z.2.1, (hnext ls B z.1).2.1))
def zput (most : Int) (b : Int) (z : Z) : Z :=
  if z.2.2 ≠ 0 then z else if most ≤ (z.2.1.length : Int) then (z.1, z.2.1, 5) else (z.1, z.2.1 ++ [b], z.2.2)
def zlen (v : Int) : Int × Int × Bool :=
  if v < 257 ∨ 285 < v then (0, 0, false) else if v = 285 then (258, 0, true) else if v - 257 < 8 then (3 + (v - 257), 0, true)
  else (3 + (4 + (v - 257) % 4) * 2 ^ ((v - 257) / 4 - 1).toNat, (v - 257) / 4 - 1, true)
def zdis (v : Int) : Int × Int × Bool :=
  if v < 0 ∨ 30 ≤ v then (0, 0, false) else if v < 4 then (1 + v, 0, true) else (1 + (2 + v % 2) * 2 ^ (v / 2 - 1).toNat, v / 2 - 1, true)
def zcp (most d : Int) : Nat → Z → Z
  | 0, z => z
  | n + 1, z => if z.2.2 ≠ 0 then z else zcp most d n (zput most (z.2.1.getD (z.2.1.length - d.toNat) 0) z)
def zok (ok : Bool) (z : Z) : Z := if ok then z else zfail 2 z
/-- a copy: the length, the distance, the state -/
def zbehind (dl : List Int) (B : List Bool) (most v : Int) (z : Z) : Z :=
  let l := zlen v
  let g := zget B l.2.1 (zok l.2.2 z)
  let s := zsym dl B g.2
  let d := zdis s.1
  let g2 := zget B d.2.1 (zok d.2.2 s.2)
  let z5 := if (g2.2.2.1.length : Int) < d.1 + g2.1 then zfail 2 g2.2 else g2.2
  zcp most (d.1 + g2.1) (l.1 + g.1).toNat z5
def zcoded (ll dl : List Int) (B : List Bool) (most : Int) : Nat → Z → Z
  | 0, z => z
  | f + 1, z => if z.2.2 ≠ 0 then z else
    let s := zsym ll B z
    if s.2.2.2 ≠ 0 ∨ s.1 = 256 then s.2
    else if s.1 < 256 then zcoded ll dl B most f (zput most s.1 s.2) else zcoded ll dl B most f (zbehind dl B most s.1 s.2)
def zcode (ls : List Int) (z : Z) : Z := if z.2.2 = 0 ∧ hnew ls true ≠ 0 then zfail 2 z else z
def zblk (ll dl : List Int) (B : List Bool) (most : Int) (z : Z) : Z :=
  let z3 := zcode dl (zcode ll (if z.2.2 = 0 ∧ ll.getD 256 0 = 0 then zfail 2 z else z))
  if z3.2.2 ≠ 0 then z3 else zcoded ll dl B most (B.length + 1) z3
def zst (B : List Bool) (most : Int) : Nat → Z → Z
  | 0, z => z
  | n + 1, z => zst B most n (zput most (zget B 8 z).1 (zget B 8 z).2)
def zstored (B : List Bool) (most : Int) (z : Z) : Z :=
  let g := zget B 16 (8 * ((z.1 + 7) / 8), z.2.1, z.2.2)
  let g2 := zget B 16 g.2
  if g2.2.2.2 ≠ 0 then g2.2 else if xorV .i64 g.1 g2.1 ≠ 65535 then zfail 2 g2.2 else if most - g2.2.2.1.length < g.1 then zfail 5 g2.2 else zst B most g.1.toNat g2.2

def flit : List Int := List.replicate 144 8 ++ (List.replicate 112 9 ++ (List.replicate 24 7 ++ List.replicate 8 8))
def fdist : List Int := List.replicate 32 5

/-- a block that is not of kind 2: was it the last, the state -/
def zblock (B : List Bool) (most : Int) (z : Z) : Bool × Z :=
  let a := zget B 1 z
  let k := zget B 2 a.2
  if k.2.2.2 ≠ 0 then (false, k.2) else if k.1 = 0 then (a.1 == 1, zstored B most k.2) else if k.1 = 1 then (a.1 == 1, zblk flit fdist B most k.2) else (a.1 == 1, zfail 2 k.2)
def znot2 (B : List Bool) (z : Z) : Prop := (zget B 2 (zget B 1 z).2).2.2.2 ≠ 0 ∨ (zget B 2 (zget B 1 z).2).1 ≠ 2

/-- blocks up to the last, or to a fault -/
inductive ZRun (B : List Bool) (most : Int) : Nat → Z → Z → Prop
  | bad {z : Z} (h2 : znot2 B z) (he : (zblock B most z).2.2.2 ≠ 0) : ZRun B most 0 z (zblock B most z).2
  | last {z : Z} (h2 : znot2 B z) (he : (zblock B most z).2.2.2 = 0) (hl : (zblock B most z).1 = true) : ZRun B most 0 z (zblock B most z).2
  | next {n : Nat} {z z' : Z} (h2 : znot2 B z) (he : (zblock B most z).2.2.2 = 0) (hl : (zblock B most z).1 = false) (hr : ZRun B most n (zblock B most z).2 z') : ZRun B most (n + 1) z z'

/-! ### places -/

theorem hdec_le (l : List Int) (b : List Bool) : ∀ f n v p, p ≤ b.length → p ≤ (hdec l b f n v p).2.2 ∧ (hdec l b f n v p).2.2 ≤ b.length ∧ ((hdec l b f n v p).2.1 = 0 → p < (hdec l b f n v p).2.2) := by
  intro f
  induction f with
  | zero => intro n v p hp; exact ⟨Nat.le_refl _, hp, fun h => by simp [hdec] at h⟩
  | succ f ih =>
    intro n v p hp
    rw [hdec]
    split
    · exact ⟨Nat.le_refl _, hp, fun h => by simp at h⟩
    · rename_i x hx
      have hlt : p < b.length := (List.getElem?_eq_some_iff.1 hx).1
      split
      · exact ⟨by simp only; omega, by simp only; omega, fun _ => by simp only; omega⟩
      · obtain ⟨h1, h2, h3⟩ := ih (n + 1) (2 * v + x.toNat) (p + 1) (by omega)
        exact ⟨by omega, h2, fun h => by omega⟩

/-- what comes of a step: not behind, not past the end -/
def zfwd (B : List Bool) (z z' : Z) : Prop := z.1 ≤ z'.1 ∧ z'.1 ≤ B.length
variable {B : List Bool} {most : Int} {z : Z}
theorem zfwd.rfl' (h : z.1 ≤ B.length) : zfwd B z z := ⟨Nat.le_refl _, h⟩
theorem zget_fwd (n : Int) (h : z.1 ≤ B.length) : zfwd B z (zget B n z).2 := by
  unfold zget zfwd
  split
  · exact ⟨Nat.le_refl _, h⟩
  · split
    · simp only; omega
    · exact ⟨Nat.le_refl _, h⟩
theorem zsym_fwd (ls : List Int) (h : z.1 ≤ B.length) : zfwd B z (zsym ls B z).2 := by
  unfold zsym zfwd
  split
  · exact ⟨Nat.le_refl _, h⟩
  · obtain ⟨h1, h2, _⟩ := hdec_le ls B (hlong ls 15) 1 0 z.1 h
    exact ⟨h1, h2⟩
theorem zput_p (b : Int) : (zput most b z).1 = z.1 := by
  unfold zput
  split
  · rfl
  · split <;> rfl
theorem zfail_p (e : Int) : (zfail e z).1 = z.1 := rfl
theorem zok_p (ok : Bool) : (zok ok z).1 = z.1 := by unfold zok; split <;> rfl
theorem zcp_p (d : Int) : ∀ n (z : Z), (zcp most d n z).1 = z.1 := by
  intro n
  induction n with
  | zero => intro z; rfl
  | succ n ih =>
    intro z
    rw [zcp]
    split
    · rfl
    · rw [ih, zput_p]
theorem zbehind_fwd (dl : List Int) (v : Int) (h : z.1 ≤ B.length) : zfwd B z (zbehind dl B most v z) := by
  unfold zbehind
  simp only
  have h1 := zget_fwd (B := B) (zlen v).2.1 (z := zok (zlen v).2.2 z) (by rw [zok_p]; exact h)
  generalize zget B (zlen v).2.1 (zok (zlen v).2.2 z) = g at h1 ⊢
  have h2 := zsym_fwd (B := B) dl (z := g.2) h1.2
  generalize zsym dl B g.2 = s at h2 ⊢
  have h3 := zget_fwd (B := B) (zdis s.1).2.1 (z := zok (zdis s.1).2.2 s.2) (by rw [zok_p]; exact h2.2)
  generalize zget B (zdis s.1).2.1 (zok (zdis s.1).2.2 s.2) = g2 at h3 ⊢
  rw [zfwd, zcp_p]
  unfold zfwd at h1 h2 h3
  rw [zok_p] at h1 h3
  split
  · rw [zfail_p]; omega
  · omega

/-- what is got stays below its bits' room -/
theorem zget_lt (n : Int) : 0 ≤ (zget B n z).1 ∧ (zget B n z).1 < 2 ^ n.toNat := by
  unfold zget
  have h2 : (0 : Int) < 2 ^ n.toNat := Int.pow_pos (by decide)
  split
  · exact ⟨Int.le_refl _, h2⟩
  · split
    · refine ⟨Int.natCast_nonneg _, ?_⟩
      have h3 := val_lt ((B.drop z.1).take n.toNat)
      have h4 : ((B.drop z.1).take n.toNat).length ≤ n.toNat := List.length_take_le _ _
      have h5 := Nat.lt_of_lt_of_le h3 (Nat.pow_le_pow_right (by decide : 0 < 2) h4)
      simp only
      exact_mod_cast h5
    · exact ⟨Int.le_refl _, h2⟩

theorem zget_val {V M p n : Nat} (h : p + n ≤ M) : val (((bitsOf (V : Int) M).drop p).take n) = V / 2 ^ p % 2 ^ n := by
  obtain ⟨r, rfl⟩ : ∃ r, M = p + (n + r) := ⟨M - p - n, by omega⟩
  rw [bitsOf_add, List.drop_left' (bitsOf_length _ _), bitsOf_add, List.take_left' (bitsOf_length _ _), val_bitsOf']
  have e1 : (V : Int) / 2 ^ p = ((V / 2 ^ p : Nat) : Int) := by simp
  rw [e1]
  have e2 : (((V / 2 ^ p : Nat) : Int) % 2 ^ n) = ((V / 2 ^ p % 2 ^ n : Nat) : Int) := by simp
  rw [e2, Int.toNat_natCast]

end Go.Proofs.Ytkajimndclhgaaa

/- DEFLATE read: the program's text. Own work. -/
namespace Go.Proofs.Ytkajimndclhgaaa
open Go Go.Proofs
set_option linter.unusedVariables false
set_option linter.unusedSimpArgs false
attribute [local irreducible] apK cpK mkK br

/-- a reader of blocks: of the bits V, N bytes of them -/
def ztA (sb rb V N : Nat) (most : Int) (z : Z) : As := exA fun o : Sl => andA (blkA sb [.pointer (some ⟨rb, 0, none⟩), .slice o.a o.len o.cap, .int .i64 most, .int .i64 z.2.2]) (andA (bitA rb (V, N, z.1)) (ownA 1 o (u8s z.2.1)))

section
variable {F0 : List Nat} {w0 w : World} {ps rest : List As} {sb rb V N : Nat} {most : Int} {z : Z}

theorem zt_o (h : St F0 w0 w (ztA sb rb V N most z :: ps)) : ∃ o : Sl, St F0 w0 w (blkA sb [.pointer (some ⟨rb, 0, none⟩), .slice o.a o.len o.cap, .int .i64 most, .int .i64 z.2.2] :: bitA rb (V, N, z.1) :: ownA 1 o (u8s z.2.1) :: ps) := by
  unfold ztA at h
  obtain ⟨o, h⟩ := h.exE
  exact ⟨o, h.split.tail fun _ _ _ h => h.split⟩
theorem zt_c {o : Sl} {p : Nat} {out : List Int} {err : Int} (h : St F0 w0 w (blkA sb [.pointer (some ⟨rb, 0, none⟩), .slice o.a o.len o.cap, .int .i64 most, .int .i64 err] :: bitA rb (V, N, p) :: ownA 1 o (u8s out) :: ps)) : St F0 w0 w (ztA sb rb V N most (p, out, err) :: ps) := by
  unfold ztA
  exact St.exI o (St.join (h.tail fun _ _ _ h => h.join))

theorem inflate_Length.c {v : Int} {K : Ending → World → Prop} (h : St F0 w0 w ps) (hk : K (.returned (.tuple ⟨[.int .i64 (zlen v).1, .int .i64 (zlen v).2.1, .bool (zlen v).2.2]⟩)) w) :
    Calls Try.prog 116 ⟨[.int .i64 v]⟩ w K := by
  refine ret_k (inflate_Length.ok _ _ _ ?_)
  unfold inflate_Length inflate_Length.j1 zlen at *
  refine lt_i ?_
  refine br_d (fun g => ?_) (fun g => ?_)
  · rw [if_pos (Or.inl g)] at hk
    unfold inflate_Length.j3
    exact br_t1 hk
  unfold inflate_Length.j3
  refine br_d (fun g2 => ?_) (fun g2 => ?_)
  · rw [if_pos (Or.inr g2)] at hk
    exact hk
  rw [if_neg (by omega)] at hk
  rw [wrap_i64 (by omega) (by omega)]
  refine br_b (fun g3 => ?_) (fun g3 => ?_)
  · rw [if_pos (by simpa using g3)] at hk
    exact hk
  rw [if_neg (by simpa using g3)] at hk
  refine br_d (fun g4 => ?_) (fun g4 => ?_)
  · rw [if_pos g4] at hk
    exact lt_as (wrap_i64 (by omega) (by omega)) hk
  rw [if_neg g4] at hk
  unfold inflate_Length.j2
  obtain ⟨k, rfl⟩ : ∃ k : Nat, v = 257 + k := ⟨(v - 257).toNat, by omega⟩
  have e0 : (257 + (k : Int)) - 257 = k := by omega
  rw [e0] at g4 hk ⊢
  have hk27 : k ≤ 28 := by omega
  refine ⟨by decide, ?_⟩
  refine lt_as (show IntKind.i64.wrap (Int.tdiv (k : Int) 4) = ((k / 4 : Nat) : Int) by rw [show Int.tdiv (k : Int) 4 = ((k / 4 : Nat) : Int) from rfl, wrap_i64 (by omega) (by omega)]) ?_
  refine lt_as (show IntKind.i64.wrap (((k / 4 : Nat) : Int) - 1) = ((k / 4 - 1 : Nat) : Int) by rw [wrap_i64 (by omega) (by omega)]; omega) ?_
  refine ⟨by decide, ?_⟩
  refine lt_as (show Int.tmod (k : Int) 4 = ((k % 4 : Nat) : Int) from rfl) ?_
  refine lt_as (show IntKind.i64.wrap (4 + ((k % 4 : Nat) : Int)) = ((4 + k % 4 : Nat) : Int) by rw [wrap_i64 (by omega) (by omega)]; omega) ?_
  refine ⟨by omega, ?_⟩
  have hp : (4 + k % 4) * 2 ^ (k / 4 - 1) ≤ 7 * 2 ^ 6 := Nat.mul_le_mul (by omega) (Nat.pow_le_pow_right (by decide) (by omega))
  have hp2 : (4 + k % 4) * 2 ^ (k / 4 - 1) ≤ 448 := hp
  refine lt_as (show shlV .i64 ((4 + k % 4 : Nat) : Int) ((k / 4 - 1 : Nat) : Int) = (((4 + k % 4) * 2 ^ (k / 4 - 1) : Nat) : Int) by
    unfold shlV
    rw [Int.toNat_natCast, show min (k / 4 - 1) IntKind.i64.bits = k / 4 - 1 by show min (k / 4 - 1) 64 = _; omega]
    rw [show ((4 + k % 4 : Nat) : Int) * 2 ^ (k / 4 - 1) = (((4 + k % 4) * 2 ^ (k / 4 - 1) : Nat) : Int) by push_cast; rfl]
    exact wrap_i64 (by omega) (by omega)) ?_
  refine lt_as (wrap_i64 (by omega) (by omega)) ?_
  have e5 : (3 : Int) + (4 + (k : Int) % 4) * 2 ^ ((k : Int) / 4 - 1).toNat = 3 + (((4 + k % 4) * 2 ^ (k / 4 - 1) : Nat) : Int) := by
    rw [show ((k : Int) / 4 - 1).toNat = k / 4 - 1 by omega]
    push_cast
    rfl
  have e6 : (k : Int) / 4 - 1 = ((k / 4 - 1 : Nat) : Int) := by omega
  simp only [e5, e6] at hk
  exact hk

theorem inflate_Distance.c {v : Int} {K : Ending → World → Prop} (h : St F0 w0 w ps) (hk : K (.returned (.tuple ⟨[.int .i64 (zdis v).1, .int .i64 (zdis v).2.1, .bool (zdis v).2.2]⟩)) w) :
    Calls Try.prog 118 ⟨[.int .i64 v]⟩ w K := by
  refine ret_k (inflate_Distance.ok _ _ _ ?_)
  unfold inflate_Distance inflate_Distance.j1 zdis at *
  refine br_d (fun g => ?_) (fun g => ?_)
  · rw [if_pos (Or.inl g)] at hk
    unfold inflate_Distance.j3
    exact br_t1 hk
  unfold inflate_Distance.j3
  refine br_d (fun g2 => ?_) (fun g2 => ?_)
  · rw [if_pos (Or.inr g2)] at hk
    exact hk
  rw [if_neg (by omega)] at hk
  refine br_d (fun g4 => ?_) (fun g4 => ?_)
  · rw [if_pos g4] at hk
    exact lt_as (wrap_i64 (by omega) (by omega)) hk
  rw [if_neg g4] at hk
  unfold inflate_Distance.j2
  obtain ⟨k, rfl⟩ : ∃ k : Nat, v = k := ⟨v.toNat, by omega⟩
  refine ⟨by decide, ?_⟩
  refine lt_as (show IntKind.i64.wrap (Int.tdiv (k : Int) 2) = ((k / 2 : Nat) : Int) by rw [show Int.tdiv (k : Int) 2 = ((k / 2 : Nat) : Int) from rfl, wrap_i64 (by omega) (by omega)]) ?_
  refine lt_as (show IntKind.i64.wrap (((k / 2 : Nat) : Int) - 1) = ((k / 2 - 1 : Nat) : Int) by rw [wrap_i64 (by omega) (by omega)]; omega) ?_
  refine ⟨by decide, ?_⟩
  refine lt_as (show Int.tmod (k : Int) 2 = ((k % 2 : Nat) : Int) from rfl) ?_
  refine lt_as (show IntKind.i64.wrap (2 + ((k % 2 : Nat) : Int)) = ((2 + k % 2 : Nat) : Int) by rw [wrap_i64 (by omega) (by omega)]; omega) ?_
  refine ⟨by omega, ?_⟩
  have hp : (2 + k % 2) * 2 ^ (k / 2 - 1) ≤ 3 * 2 ^ 14 := Nat.mul_le_mul (by omega) (Nat.pow_le_pow_right (by decide) (by omega))
  have hp2 : (2 + k % 2) * 2 ^ (k / 2 - 1) ≤ 49152 := hp
  refine lt_as (show shlV .i64 ((2 + k % 2 : Nat) : Int) ((k / 2 - 1 : Nat) : Int) = (((2 + k % 2) * 2 ^ (k / 2 - 1) : Nat) : Int) by
    unfold shlV
    rw [Int.toNat_natCast, show min (k / 2 - 1) IntKind.i64.bits = k / 2 - 1 by show min (k / 2 - 1) 64 = _; omega]
    rw [show ((2 + k % 2 : Nat) : Int) * 2 ^ (k / 2 - 1) = (((2 + k % 2) * 2 ^ (k / 2 - 1) : Nat) : Int) by push_cast; rfl]
    exact wrap_i64 (by omega) (by omega)) ?_
  refine lt_as (wrap_i64 (by omega) (by omega)) ?_
  have e5 : (1 : Int) + (2 + (k : Int) % 2) * 2 ^ ((k : Int) / 2 - 1).toNat = 1 + (((2 + k % 2) * 2 ^ (k / 2 - 1) : Nat) : Int) := by
    rw [show ((k : Int) / 2 - 1).toNat = k / 2 - 1 by omega]
    push_cast
    rfl
  have e6 : (k : Int) / 2 - 1 = ((k / 2 - 1 : Nat) : Int) := by omega
  simp only [e5, e6] at hk
  exact hk

theorem inflate_state_fail.c {e : Int} {K : Ending → World → Prop} (h : St F0 w0 w (ztA sb rb V N most z :: ps))
    (hk : ∀ w', St F0 w0 w' (ztA sb rb V N most (zfail e z) :: ps) → K (.returned (.tuple ⟨[]⟩)) w') : Calls Try.prog 171 ⟨[.pointer (some ⟨sb, 0, none⟩), .int .i64 e]⟩ w K := by
  obtain ⟨p, out, err⟩ := z
  refine ret_k (inflate_state_fail.ok _ _ _ _ ?_)
  unfold inflate_state_fail
  unfold zfail at hk
  obtain ⟨o, h⟩ := zt_o h
  simp only at h hk
  refine nz_i (h.fI ?_)
  refine br_b (fun g => ?_) (fun g => ?_)
  · rw [if_pos (by simpa using g)] at hk
    refine nz_i (h.fst trivial fun w h => ?_)
    exact hk w (zt_c h)
  · rw [if_neg (by simpa using g)] at hk
    exact hk w (zt_c h)

theorem inflate_state_get.c {n : Int} {K : Ending → World → Prop} (h : St F0 w0 w (ztA sb rb V N most z :: ps)) (hN : N ≤ 137438953472) (hp : z.1 ≤ 8 * N)
    (hk : ∀ w', (zget (bitsOf V (8 * N)) n z).2.1 ≤ 8 * N → St F0 w0 w' (ztA sb rb V N most (zget (bitsOf V (8 * N)) n z).2 :: ps) → K (.returned (.int .i64 (zget (bitsOf V (8 * N)) n z).1)) w') : Calls Try.prog 167 ⟨[.pointer (some ⟨sb, 0, none⟩), .int .i64 n]⟩ w K := by
  have hf := (zget_fwd (B := bitsOf V (8 * N)) n (z := z) (by rw [bitsOf_length]; exact hp)).2
  rw [bitsOf_length] at hf
  have hk := fun w' => hk w' hf
  clear hf
  obtain ⟨p, out, err⟩ := z
  simp only at hp
  refine ret_k (inflate_state_get.ok _ _ _ _ ?_)
  unfold inflate_state_get
  unfold zget at hk
  have h0 := h
  obtain ⟨o, h⟩ := zt_o h
  simp only at h hk
  refine nz_i (h.fI ?_)
  refine br_b (fun g => ?_) (fun g => ?_)
  · rw [if_pos (by simpa using g)] at hk
    exact hk w h0
  · have g : err = 0 := by simpa using g
    subst g
    rw [if_neg (by simp), bitsOf_length] at hk
    refine nz_i (h.fP ?_)
    refine bits_Reader_Get.c (rb := rb) (V := V) (N := N) (at' := p) h.at1 hN (by omega) (fun g w h => ⟨_, _, rfl, ?_⟩) (fun g w h => ⟨_, _, rfl, ?_⟩)
    · have g := of_decide_eq_true g
      rw [if_pos ⟨g.1, g.2.1, by omega⟩] at hk
      simp only at hk
      rw [zget_val (by omega)] at hk
      refine br_f1 ?_
      exact hk w (zt_c h.at1)
    · have g := of_decide_eq_false g
      rw [if_neg (fun e => g ⟨e.1, e.2.1, by have := e.2.2; omega⟩)] at hk
      refine br_t1 ?_
      have h := zt_c (p := p) (out := out) (err := 0) h.at1
      refine inflate_state_fail.c h fun w h => ⟨rfl, ?_⟩
      exact hk w h

theorem inflate_state_put.c {b : Int} {K : Ending → World → Prop} (h : St F0 w0 w (ztA sb rb V N most z :: ps)) (hL : z.2.1.length ≤ 1000000000)
    (hk : ∀ w', St F0 w0 w' (ztA sb rb V N most (zput most b z) :: ps) → K (.returned (.tuple ⟨[]⟩)) w') : Calls Try.prog 178 ⟨[.pointer (some ⟨sb, 0, none⟩), .int .u8 b]⟩ w K := by
  obtain ⟨p, out, err⟩ := z
  simp only at hL
  refine ret_k (inflate_state_put.ok _ _ _ _ ?_)
  unfold inflate_state_put
  unfold zput at hk
  have h0 := h
  obtain ⟨o, h⟩ := zt_o h
  simp only at h hk
  have hol := h.at2.len
  rw [ivs_length] at hol
  refine nz_i (h.fI ?_)
  refine br_b (fun g => ?_) (fun g => ?_)
  · rw [if_pos (by simpa using g)] at hk
    exact hk w h0
  have g : err = 0 := by simpa using g
  subst g
  rw [if_neg (by simp)] at hk
  refine h.drewK fun w h => ?_
  refine nz_i (h.fL (nz_i (h.fI ?_)))
  refine br_d (fun g2 => ?_) (fun g2 => ?_)
  · have g2 : ((o.len : Nat) : Int) ≥ most := g2
    rw [if_pos (by omega)] at hk
    exact inflate_state_fail.c (zt_c h) fun w h => ⟨rfl, hk w h⟩
  · have g2 : ¬ ((o.len : Nat) : Int) ≥ most := g2
    rw [if_neg (by omega)] at hk
    refine nz_i (h.fL ?_)
    refine h.pushI (s := o) (by omega) fun o2 w h => ?_
    refine nz_i (h.fst trivial fun w h => ?_)
    exact hk w (zt_c (o := o2) h.sub)

theorem inflate_state_code.c {s : Sl} {ls : List Int} {half : Bool} {K : Ending → World → Prop} (h : St F0 w0 w (ztA sb rb V N most z :: ps)) [Rdb F0 w0 s ps 1 (ivs .i64 ls)]
    (hk0 : ∀ cb w', z.2.2 = 0 → hnew ls half = 0 → St F0 w0 w' (ztA sb rb V N most z :: hcA cb ls :: ps) → K (.returned (.pointer (some ⟨cb, 0, none⟩))) w')
    (hk1 : ∀ w', z.2.2 = 0 → hnew ls half ≠ 0 → St F0 w0 w' (ztA sb rb V N most (zfail 2 z) :: ps) → K (.returned (.pointer none)) w')
    (hk2 : z.2.2 ≠ 0 → K (.returned (.pointer none)) w) : Calls Try.prog 179 ⟨[.pointer (some ⟨sb, 0, none⟩), .slice s.a s.len s.cap, .bool half]⟩ w K := by
  obtain ⟨p, out, err⟩ := z
  refine ret_k (inflate_state_code.ok _ _ _ _ _ ?_)
  unfold inflate_state_code
  obtain ⟨o, h⟩ := zt_o h
  simp only at h hk0 hk1 hk2
  refine nz_i (h.fI ?_)
  refine br_b (fun g => hk2 (by simpa using g)) (fun g => ?_)
  have g : err = 0 := by simpa using g
  subst g
  refine huff_New.c (s := s) (half := half) h (fun cb w g h => ⟨_, _, rfl, br_f1 ?_⟩) (fun w g h => ⟨_, _, rfl, br_is (by simpa using g) ?_⟩)
  · exact hk0 cb w rfl g (zt_c (o := o) h.sub)
  · exact inflate_state_fail.c (zt_c h) fun w h => ⟨rfl, hk1 w rfl g h⟩

theorem inflate_state_sym.c {cb : Nat} {ls : List Int} {K : Ending → World → Prop} (h : St F0 w0 w (ztA sb rb V N most z :: ps)) [PkF hcA cb ps ls rest] (hN : N ≤ 137438953472) (hp : z.1 ≤ 8 * N)
    (hk : ∀ w', (zsym ls (bitsOf V (8 * N)) z).2.1 ≤ 8 * N → St F0 w0 w' (ztA sb rb V N most (zsym ls (bitsOf V (8 * N)) z).2 :: ps) → K (.returned (.int .i64 (zsym ls (bitsOf V (8 * N)) z).1)) w') :
    Calls Try.prog 180 ⟨[.pointer (some ⟨sb, 0, none⟩), .func (.func 102) ⟨[.pointer (some ⟨cb, 0, none⟩)]⟩ ⟨[]⟩]⟩ w K := by
  obtain ⟨p, out, err⟩ := z
  simp only at hp
  refine ret_k (inflate_state_sym.ok _ _ _ _ ?_)
  unfold inflate_state_sym
  unfold zsym at hk
  have h0 := h
  obtain ⟨o, h⟩ := zt_o h
  simp only at h hk
  refine nz_i (h.fI ?_)
  refine br_b (fun g => ?_) (fun g => ?_)
  · rw [if_pos (by simpa using g)] at hk
    exact hk w hp h0
  have g : err = 0 := by simpa using g
  subst g
  rw [if_neg (by simp)] at hk
  refine nz_i (h.fP ?_)
  refine huff_Code_Next.c (ls := ls) (cb := cb) (rb := rb) (V := V) (N := N) (p := p) h.at1 hN hp fun w hle h => ⟨_, _, rfl, ?_⟩
  refine inflate_state_fail.c (zt_c h.at1) fun w h => ⟨rfl, ?_⟩
  refine hk w hle ?_
  exact h

end

end Go.Proofs.Ytkajimndclhgaaa

/- DEFLATE read: copies, coded blocks, stored blocks. Own work. -/
namespace Go.Proofs.Ytkajimndclhgaaa
open Go Go.Proofs
set_option linter.unusedVariables false
set_option linter.unusedSimpArgs false
attribute [local irreducible] apK cpK mkK br

/-! ### bounds -/

theorem pow_le {a b : Nat} (h : a ≤ b) : (2 : Nat) ^ a ≤ 2 ^ b := Nat.pow_le_pow_right (by decide) h
theorem pow_leI {a b c : Nat} (h : a ≤ b) (e : 2 ^ b = c) : (2 : Int) ^ a ≤ (c : Int) := by
  rw [show (2 : Int) ^ a = ((2 ^ a : Nat) : Int) by simp, ← e]
  exact Int.ofNat_le.2 (pow_le h)

theorem zlen_b (v : Int) : 0 ≤ (zlen v).1 ∧ (zlen v).1 ≤ 1000 ∧ (zlen v).2.1.toNat ≤ 6 := by
  unfold zlen
  split
  · decide
  · split
    · decide
    · split
      · simp only; omega
      · simp only
        have h1 : ((v - 257) / 4 - 1).toNat ≤ 6 := by omega
        have h2 := pow_le h1
        have h3 : (4 + (v - 257) % 4).toNat * 2 ^ ((v - 257) / 4 - 1).toNat ≤ 7 * 2 ^ 6 := Nat.mul_le_mul (by omega) h2
        have h4 : (4 + (v - 257) % 4) * 2 ^ ((v - 257) / 4 - 1).toNat = (((4 + (v - 257) % 4).toNat * 2 ^ ((v - 257) / 4 - 1).toNat : Nat) : Int) := by
          rw [Int.natCast_mul, Int.toNat_of_nonneg (by omega)]; simp
        rw [h4]
        have h5 : (7 : Nat) * 2 ^ 6 = 448 := by decide
        refine ⟨?_, ?_, h1⟩ <;> omega

theorem zdis_b (v : Int) : 0 ≤ (zdis v).1 ∧ (zdis v).1 ≤ 100000 ∧ (zdis v).2.1.toNat ≤ 14 ∧ ((zdis v).2.2 = true → 1 ≤ (zdis v).1) := by
  unfold zdis
  split
  · decide
  · split
    · simp only; refine ⟨?_, ?_, ?_, fun _ => ?_⟩ <;> omega
    · simp only
      have h1 : (v / 2 - 1).toNat ≤ 14 := by omega
      have h2 := pow_le h1
      have h3 : (2 + v % 2).toNat * 2 ^ (v / 2 - 1).toNat ≤ 3 * 2 ^ 14 := Nat.mul_le_mul (by omega) h2
      have h4 : (2 + v % 2) * 2 ^ (v / 2 - 1).toNat = (((2 + v % 2).toNat * 2 ^ (v / 2 - 1).toNat : Nat) : Int) := by
        rw [Int.natCast_mul, Int.toNat_of_nonneg (by omega)]; simp
      rw [h4]
      have h5 : (3 : Nat) * 2 ^ 14 = 49152 := by decide
      refine ⟨?_, ?_, h1, fun _ => ?_⟩ <;> omega

section pure
variable {B : List Bool} {most : Int} {z : Z}

theorem zget_err {n : Int} (h : (zget B n z).2.2.2 = 0) : z.2.2 = 0 := by
  unfold zget at h
  split at h
  · exact h
  · rename_i h1; exact Decidable.not_not.1 h1
theorem zget_out (n : Int) : (zget B n z).2.2.1 = z.2.1 := by
  unfold zget
  split
  · rfl
  · split <;> rfl
theorem zok_err {ok : Bool} (h : (zok ok z).2.2 = 0) : ok = true ∧ z.2.2 = 0 := by
  unfold zok at h
  split at h
  · rename_i h1; exact ⟨h1, h⟩
  · exfalso
    unfold zfail at h
    simp only at h
    split at h
    · cases h
    · contradiction
theorem zok_out (ok : Bool) : (zok ok z).2.1 = z.2.1 := by unfold zok; split <;> rfl
theorem zsym_out (ls : List Int) : (zsym ls B z).2.2.1 = z.2.1 := by unfold zsym; split <;> rfl
theorem zput_len (b : Int) (hm : most ≤ 1000000) (h : z.2.1.length ≤ 1000000) : (zput most b z).2.1.length ≤ 1000000 := by
  unfold zput
  split
  · exact h
  · split
    · exact h
    · simp only [List.length_append, List.length_singleton]; omega
theorem zcp_len (d : Int) (hm : most ≤ 1000000) : ∀ n (z : Z), z.2.1.length ≤ 1000000 → (zcp most d n z).2.1.length ≤ 1000000 := by
  intro n
  induction n with
  | zero => intro z h; exact h
  | succ n ih =>
    intro z h
    rw [zcp]
    split
    · exact h
    · exact ih _ (zput_len _ hm h)
theorem zbehind_len (dl : List Int) (v : Int) (hm : most ≤ 1000000) (h : z.2.1.length ≤ 1000000) : (zbehind dl B most v z).2.1.length ≤ 1000000 := by
  unfold zbehind
  simp only
  refine zcp_len _ hm _ _ ?_
  split
  · show (zget B _ _).2.2.1.length ≤ _
    rw [zget_out, zok_out, zsym_out, zget_out, zok_out]; exact h
  · rw [zget_out, zok_out, zsym_out, zget_out, zok_out]; exact h
theorem zfail_ne {e : Int} (h : e ≠ 0) : (zfail e z).2.2 ≠ 0 := by
  unfold zfail
  simp only
  split <;> assumption
end pure

section
variable {F0 : List Nat} {w0 w : World} {ps rest rest2 : List As} {sb rb V N : Nat} {most : Int} {z : Z}

theorem inflate_state_behind.c {v : Int} {cb : Nat} {dl : List Int} {K : Ending → World → Prop} (h : St F0 w0 w (ztA sb rb V N most z :: ps)) [PkF hcA cb ps dl rest] (hN : N ≤ 137438953472) (hp : z.1 ≤ 8 * N) (hm : most ≤ 1000000) (hL : z.2.1.length ≤ 1000000)
    (hk : ∀ w', St F0 w0 w' (ztA sb rb V N most (zbehind dl (bitsOf V (8 * N)) most v z) :: ps) → K (.returned (.tuple ⟨[]⟩)) w') :
    Calls Try.prog 181 ⟨[.pointer (some ⟨sb, 0, none⟩), .int .i64 v, .func (.func 102) ⟨[.pointer (some ⟨cb, 0, none⟩)]⟩ ⟨[]⟩]⟩ w K := by
  refine ret_k (inflate_state_behind.ok _ _ _ _ _ ?_)
  unfold inflate_state_behind
  unfold zbehind at hk
  simp only at hk
  have b1 := zlen_b v
  refine inflate_Length.c h ⟨_, _, _, rfl, ?_⟩
  have j1 : ∀ w, St F0 w0 w (ztA sb rb V N most (zok (zlen v).2.2 z) :: ps) → inflate_state_behind.j1 (some ⟨sb, 0, none⟩) (some ⟨cb, 0, none⟩) (zlen v).1 (zlen v).2.1 (fun v w' => K (.returned v) w') w := by
    intro w h
    unfold inflate_state_behind.j1
    have hzp : (zok (zlen v).2.2 z).1 ≤ 8 * N := by rw [zok_p]; exact hp
    have hzo : (zok (zlen v).2.2 z).2.1.length ≤ 1000000 := by rw [zok_out]; exact hL
    generalize zok (zlen v).2.2 z = z1 at h hk hzp hzo
    generalize (zlen v).1 = l1 at hk b1 ⊢
    generalize (zlen v).2.1 = l2 at hk b1 ⊢
    refine inflate_state_get.c h hN hzp fun w hg h => ⟨_, rfl, ?_⟩
    have gl := zget_lt (B := bitsOf V (8 * N)) (z := z1) l2
    have go := zget_out (B := bitsOf V (8 * N)) (z := z1) l2
    have ge := zget_err (B := bitsOf V (8 * N)) (z := z1) (n := l2)
    generalize zget (bitsOf V (8 * N)) l2 z1 = g at h hk hg gl go ge ⊢
    have pl : (2 : Int) ^ l2.toNat ≤ 64 := pow_leI (c := 64) b1.2.2 rfl
    refine lt_as (wrap_i64 (by omega) (by omega)) ?_
    unfold inflate_state_behind.j2
    refine inflate_state_sym.c (ls := dl) (cb := cb) h hN hg fun w hs h => ⟨_, rfl, ?_⟩
    have so := zsym_out (B := bitsOf V (8 * N)) (z := g.2) dl
    generalize zsym dl (bitsOf V (8 * N)) g.2 = s at h hk hs so ⊢
    have b2 := zdis_b s.1
    refine inflate_Distance.c h ⟨_, _, _, rfl, ?_⟩
    have j3 : ∀ w, St F0 w0 w (ztA sb rb V N most (zok (zdis s.1).2.2 s.2) :: ps) → inflate_state_behind.j3 (some ⟨sb, 0, none⟩) (l1 + g.1) (zdis s.1).1 (zdis s.1).2.1 (fun v w' => K (.returned v) w') w := by
      intro w h
      unfold inflate_state_behind.j3
      have hzp2 : (zok (zdis s.1).2.2 s.2).1 ≤ 8 * N := by rw [zok_p]; exact hs
      have ho2 : (zok (zdis s.1).2.2 s.2).2.1 = z1.2.1 := by rw [zok_out, so, go]
      have he2 := zok_err (ok := (zdis s.1).2.2) (z := s.2)
      generalize zok (zdis s.1).2.2 s.2 = z4 at h hk hzp2 ho2 he2
      have b2' : z4.2.2 = 0 → 1 ≤ (zdis s.1).1 := fun e => b2.2.2.2 (he2 e).1
      generalize (zdis s.1).1 = d1 at hk b2 b2' ⊢
      generalize (zdis s.1).2.1 = d2 at hk b2 ⊢
      refine inflate_state_get.c h hN hzp2 fun w hg2 h => ⟨_, rfl, ?_⟩
      have gl2 := zget_lt (B := bitsOf V (8 * N)) (z := z4) d2
      have go2 := zget_out (B := bitsOf V (8 * N)) (z := z4) d2
      have ge2 := zget_err (B := bitsOf V (8 * N)) (z := z4) (n := d2)
      generalize zget (bitsOf V (8 * N)) d2 z4 = g2 at h hk hg2 gl2 go2 ge2 ⊢
      have pl2 : (2 : Int) ^ d2.toNat ≤ 16384 := pow_leI (c := 16384) b2.2.2.1 rfl
      refine lt_as (wrap_i64 (by omega) (by omega)) ?_
      have j4 : ∀ (z5 : Z) w, zcp most (d1 + g2.1) (l1 + g.1).toNat z5 = zcp most (d1 + g2.1) (l1 + g.1).toNat (if (g2.2.2.1.length : Int) < d1 + g2.1 then zfail 2 g2.2 else g2.2) → z5.2.1.length ≤ 1000000 → (z5.2.2 = 0 → 1 ≤ d1 + g2.1 ∧ d1 + g2.1 ≤ (z5.2.1.length : Int)) →
          St F0 w0 w (ztA sb rb V N most z5 :: ps) → inflate_state_behind.j4 (some ⟨sb, 0, none⟩) (l1 + g.1) (d1 + g2.1) (fun v w' => K (.returned v) w') w := by
        intro z5 w he hl5 hd5 h
        rw [← he] at hk
        clear he
        unfold inflate_state_behind.j4 inflate_state_behind.j5
        have hn0 : 0 ≤ l1 + g.1 := by omega
        generalize hnn : l1 + g.1 = n at hk hn0 ⊢
        have hn1 : n ≤ 2000 := by omega
        obtain ⟨n, rfl⟩ : ∃ k : Nat, n = k := ⟨n.toNat, by omega⟩
        rw [Int.toNat_natCast] at hk
        generalize hdd : d1 + g2.1 = d at hk hd5 ⊢
        have hdb : d ≤ 200000 ∧ 0 ≤ d := by omega
        refine loop1 (fun (a : Nat × Z) (i' : Int) w' => i' = a.1 ∧ a.1 ≤ n ∧ zcp most d (n - a.1) a.2 = zcp most d n z5 ∧ a.2.2.1.length ≤ 1000000 ∧ (a.2.2.2 = 0 → 1 ≤ d ∧ d ≤ (a.2.2.1.length : Int)) ∧ St F0 w0 w' (ztA sb rb V N most a.2 :: ps)) (fun a => n - a.1) (0, z5) ⟨rfl, by simp, rfl, hl5, hd5, h⟩ ?_
        clear h hl5 hd5
        rintro ⟨i, p, out, err⟩ i' wL I μ ⟨rfl, hi, hz, hl5, hd5, h⟩ hin
        simp only at hi hz hl5 hd5 h hin ⊢
        unfold inflate_state_behind.b1
        have h0 := h
        obtain ⟨o, h⟩ := zt_o h
        simp only at h
        have hol := h.at2.len
        rw [ivs_length] at hol
        refine br_d (fun g1 => ?_) (fun g1 => ?_)
        · obtain ⟨f, hf⟩ : ∃ f, n - i = f + 1 := ⟨n - i - 1, by omega⟩
          rw [hf, zcp] at hz
          refine nz_i (h.fI ?_)
          refine br_b (fun g3 => ?_) (fun g3 => ?_)
          · have g3 : err = 0 := by simpa using g3
            subst g3
            have hd5 := hd5 rfl
            rw [if_neg (by simp)] at hz
            simp only at hz
            refine h.drewK fun w h => ?_
            refine nz_i (h.fL (nz_i (h.fL ?_)))
            refine lt_as (show IntKind.i64.wrap (((o.len : Nat) : Int) - d) = ((out.length - d.toNat : Nat) : Int) by rw [wrap_i64 (by omega) (by omega)]; omega) ?_
            refine h.lx (s := o) (out.length - d.toNat) rfl (by omega) ?_
            refine inflate_state_put.c (zt_c h) (by simp only; omega) fun w h => ⟨rfl, ?_⟩
            refine lt_as (wrap_i64 (by omega) (by omega)) ?_
            refine ⟨⟨rfl, rfl, rfl⟩, hin (i + 1, zput most (out.getD (out.length - d.toNat) 0) (p, out, 0)) _ _ ⟨by simp, by simp only; omega, ?_, zput_len _ hm hl5, ?_, h⟩ (by simp only; omega)⟩
            · simp only
              rw [show n - (i + 1) = f by omega]
              exact hz
            · intro e
              refine ⟨hd5.1, ?_⟩
              unfold zput
              simp only
              rw [if_neg (by simp)]
              split
              · exact hd5.2
              · simp only [List.length_append, List.length_singleton]; omega
          · have g3 : err ≠ 0 := by simpa using g3
            rw [if_pos g3] at hz
            rw [← hz] at hk
            exact hk wL h0
        · have : i = n := by omega
          subst this
          rw [Nat.sub_self, zcp] at hz
          rw [← hz] at hk
          exact hk wL h0
      have h0 := h
      obtain ⟨o, h⟩ := zt_o h
      have hol := h.at2.len
      rw [ivs_length] at hol
      have hgo : g2.2.2.1.length ≤ 1000000 := by rw [go2, ho2]; exact hzo
      refine nz_i (h.fL ?_)
      refine br_d (fun g5 => ?_) (fun g5 => ?_)
      · have g5 : d1 + g2.1 > ((o.len : Nat) : Int) := g5
        refine inflate_state_fail.c h0 fun w h => ⟨rfl, ?_⟩
        exact j4 (zfail 2 g2.2) w (by rw [if_pos (by omega)]) hgo (fun e => absurd e (zfail_ne (by decide))) h
      · have g5 : ¬ d1 + g2.1 > ((o.len : Nat) : Int) := g5
        exact j4 g2.2 w (by rw [if_neg (by omega)]) hgo (fun e => ⟨by have := b2' (ge2 e); omega, by omega⟩) h0
    refine br_b (fun g5 => ?_) (fun g5 => ?_)
    · have g5 : (zdis s.1).2.2 = false := by simpa using g5
      refine inflate_state_fail.c h fun w h => ⟨rfl, ?_⟩
      refine j3 w ?_
      rw [g5]; exact h
    · have g5 : (zdis s.1).2.2 = true := by simpa using g5
      refine j3 w ?_
      rw [g5]; exact h
  refine br_b (fun g5 => ?_) (fun g5 => ?_)
  · have g5 : (zlen v).2.2 = false := by simpa using g5
    refine inflate_state_fail.c h fun w h => ⟨rfl, ?_⟩
    refine j1 w ?_
    rw [g5]; exact h
  · have g5 : (zlen v).2.2 = true := by simpa using g5
    refine j1 w ?_
    rw [g5]; exact h

end

end Go.Proofs.Ytkajimndclhgaaa

/- DEFLATE read: blocks. Own work. -/
namespace Go.Proofs.Ytkajimndclhgaaa
open Go Go.Proofs
set_option linter.unusedVariables false
set_option linter.unusedSimpArgs false
attribute [local irreducible] apK cpK mkK br

section
variable {F0 : List Nat} {w0 w : World} {ps rest rest2 : List As} {sb rb V N : Nat} {most : Int} {z : Z}

theorem hdec_nn (l : List Int) (b : List Bool) : ∀ f n v p, 0 ≤ (hdec l b f n v p).1 := by
  intro f
  induction f with
  | zero => intro n v p; exact Int.le_refl _
  | succ f ih =>
    intro n v p
    rw [hdec]
    split
    · exact Int.le_refl _
    · split
      · exact Int.natCast_nonneg _
      · exact ih _ _ _
theorem zsym_nn {B : List Bool} (ls : List Int) : 0 ≤ (zsym ls B z).1 := by
  unfold zsym
  split
  · exact Int.le_refl _
  · exact hdec_nn _ _ _ _ _ _

theorem inflate_state_coded.loop {ca cb : Nat} {ll dl : List Int} {K : Ending → World → Prop} (h : St F0 w0 w (ztA sb rb V N most z :: ps)) [PkF hcA ca ps ll rest] [PkF hcA cb ps dl rest2] (hN : N ≤ 137438953472) (hp : z.1 ≤ 8 * N) (hm : most ≤ 1000000) (hL : z.2.1.length ≤ 1000000)
    (hk : ∀ w', St F0 w0 w' (ztA sb rb V N most (zcoded ll dl (bitsOf V (8 * N)) most (8 * N + 1) z) :: ps) → K (.returned (.tuple ⟨[]⟩)) w') :
    inflate_state_coded.j2 (some ⟨sb, 0, none⟩) (some ⟨ca, 0, none⟩) (some ⟨cb, 0, none⟩) (fun v w' => K (.returned v) w') w := by
  unfold inflate_state_coded.j2
  have hBl : (bitsOf (V : Int) (8 * N)).length = 8 * N := bitsOf_length _ _
  refine loop0 (fun (a : Nat × Z) w' => 8 * N - a.2.1 < a.1 ∧ a.2.1 ≤ 8 * N ∧ a.2.2.1.length ≤ 1000000 ∧ zcoded ll dl (bitsOf V (8 * N)) most a.1 a.2 = zcoded ll dl (bitsOf V (8 * N)) most (8 * N + 1) z ∧ St F0 w0 w' (ztA sb rb V N most a.2 :: ps)) (fun a => a.1) (8 * N + 1, z) ⟨by simp only; omega, hp, hL, rfl, h⟩ ?_
  clear h hp hL
  rintro ⟨f, z1⟩ wL I μ ⟨hf, hp, hL, hz, h⟩ hin
  simp only at hf hp hL hz h hin ⊢
  unfold inflate_state_coded.b1
  obtain ⟨f, rfl⟩ : ∃ g, f = g + 1 := ⟨f - 1, by omega⟩
  rw [zcoded] at hz
  have h0 := h
  obtain ⟨o, h⟩ := zt_o h
  refine nz_i (h.fI ?_)
  refine br_b (fun g1 => ?_) (fun g1 => ?_)
  · have g1 : z1.2.2 = 0 := by simpa using g1
    rw [if_neg (by simpa using g1)] at hz
    simp only at hz
    unfold inflate_state_coded.j3
    refine inflate_state_sym.c (ls := ll) (cb := ca) h0 hN hp fun w hs h => ⟨_, rfl, ?_⟩
    have so := zsym_out (B := bitsOf V (8 * N)) (z := z1) ll
    have sp : (zsym ll (bitsOf V (8 * N)) z1).2.2.2 = 0 → z1.1 < (zsym ll (bitsOf V (8 * N)) z1).2.1 := by
      unfold zsym
      rw [if_neg (by simpa using g1)]
      exact (hdec_le ll (bitsOf V (8 * N)) (hlong ll 15) 1 0 z1.1 (by rw [hBl]; exact hp)).2.2
    have sn := zsym_nn (B := bitsOf V (8 * N)) (z := z1) ll
    generalize zsym ll (bitsOf V (8 * N)) z1 = s at h hz hs so sp sn ⊢
    obtain ⟨v, z2⟩ := s
    simp only at h hz hs so sp sn ⊢
    unfold inflate_state_coded.j4
    have h1 := h
    obtain ⟨o, h⟩ := zt_o h
    refine nz_i (h.fI ?_)
    refine br_b (fun g2 => ?_) (fun g2 => ?_)
    · have g2 : z2.2.2 ≠ 0 := by simpa using g2
      rw [if_pos (Or.inl g2)] at hz
      rw [← hz] at hk
      unfold inflate_state_coded.j5
      exact br_t1 (hk w h1)
    have g2 : z2.2.2 = 0 := by simpa using g2
    have sp := sp g2
    unfold inflate_state_coded.j5
    refine br_b (fun g3 => ?_) (fun g3 => ?_)
    · rw [if_pos (Or.inr (by simpa using g3))] at hz
      rw [← hz] at hk
      exact hk w h1
    have g3 : v ≠ 256 := by simpa using g3
    rw [if_neg (by rintro (e | e); exact e g2; exact g3 e)] at hz
    refine br_d (fun g4 => ?_) (fun g4 => ?_)
    · rw [if_pos g4] at hz
      refine lt_i ?_
      rw [wrap_u8, show v % 256 = v by omega]
      refine inflate_state_put.c h1 (by rw [so]; omega) fun w h => ⟨rfl, ?_⟩
      refine ⟨⟨rfl, rfl, rfl⟩, hin (f, zput most v z2) _ ⟨?_, ?_, zput_len _ hm (by rw [so]; exact hL), ?_, h⟩ (by simp only; omega)⟩
      · simp only; rw [zput_p]; omega
      · simp only; rw [zput_p]; exact hs
      · exact hz
    · rw [if_neg g4] at hz
      have hfw := zbehind_fwd (most := most) (B := bitsOf V (8 * N)) dl v (z := z2) (by rw [hBl]; exact hs)
      rw [zfwd, hBl] at hfw
      refine inflate_state_behind.c (cb := cb) (dl := dl) h1 hN hs hm (by rw [so]; exact hL) fun w h => ⟨rfl, ?_⟩
      refine ⟨⟨rfl, rfl, rfl⟩, hin (f, zbehind dl (bitsOf V (8 * N)) most v z2) _ ⟨?_, hfw.2, zbehind_len dl v hm (by rw [so]; exact hL), ?_, h⟩ (by simp only; omega)⟩
      · simp only; omega
      · exact hz
  · have g1 : z1.2.2 ≠ 0 := by simpa using g1
    rw [if_pos g1] at hz
    rw [← hz] at hk
    exact hk wL h0

theorem zcode_p (ls : List Int) : (zcode ls z).1 = z.1 := by unfold zcode; split <;> rfl
theorem zcode_out (ls : List Int) : (zcode ls z).2.1 = z.2.1 := by unfold zcode; split <;> rfl
theorem zcode_no (ls : List Int) (h : z.2.2 ≠ 0) : zcode ls z = z := by unfold zcode; rw [if_neg (fun e => h e.1)]

theorem inflate_state_coded.c {s t : Sl} {ll dl : List Int} {K : Ending → World → Prop} (h : St F0 w0 w (ztA sb rb V N most z :: ps)) [Rdb F0 w0 s ps 1 (ivs .i64 ll)] [Rdb F0 w0 t ps 1 (ivs .i64 dl)] (hll : 256 < ll.length) (hN : N ≤ 137438953472) (hp : z.1 ≤ 8 * N) (hm : most ≤ 1000000) (hL : z.2.1.length ≤ 1000000)
    (hk : ∀ w', St F0 w0 w' (ztA sb rb V N most (zblk ll dl (bitsOf V (8 * N)) most z) :: ps) → K (.returned (.tuple ⟨[]⟩)) w') :
    Calls Try.prog 169 ⟨[.pointer (some ⟨sb, 0, none⟩), .slice s.a s.len s.cap, .slice t.a t.len t.cap]⟩ w K := by
  refine ret_k (inflate_state_coded.ok _ _ _ _ _ ?_)
  unfold inflate_state_coded
  unfold zblk at hk
  simp only [bitsOf_length] at hk
  have j1 : ∀ (z1 : Z) w, z1 = (if z.2.2 = 0 ∧ ll.getD 256 0 = 0 then zfail 2 z else z) → St F0 w0 w (ztA sb rb V N most z1 :: ps) → inflate_state_coded.j1 (some ⟨sb, 0, none⟩) s t (fun v w' => K (.returned v) w') w := by
    intro z1 w e h
    have hp1 : z1.1 ≤ 8 * N := by rw [e]; split; exact hp; exact hp
    have hL1 : z1.2.1.length ≤ 1000000 := by rw [e]; split; exact hL; exact hL
    rw [← e] at hk
    clear e
    unfold inflate_state_coded.j1
    -- a fault: nothing more
    have bad : ∀ (z2 : Z) w, zcode dl (zcode ll z1) = z2 → z2.2.2 ≠ 0 → St F0 w0 w (ztA sb rb V N most z2 :: ps) → ∀ pa pb, nz (some (⟨sb, 0, none⟩ : Addr)) fun a19 => ldI .i64 w (Addr.add a19 3) fun x20 => br ((x20 : Int) != 0) (K (.returned (.tuple ⟨[]⟩)) w) (inflate_state_coded.j2 (some ⟨sb, 0, none⟩) pa pb (fun v w' => K (.returned v) w') w) := by
      intro z2 w e h2 h pa pb
      rw [e, if_pos h2] at hk
      have h0 := h
      obtain ⟨o, h⟩ := zt_o h
      exact nz_i (h.fI (br_is (by simpa using h2) (hk w h0)))
    refine inflate_state_code.c (s := s) (ls := ll) (half := true) h (fun ca w e1 e2 h => ⟨_, rfl, ?_⟩) (fun w e1 e2 h => ⟨_, rfl, ?_⟩) (fun e1 => ⟨_, rfl, ?_⟩)
    · have ec : zcode ll z1 = z1 := by unfold zcode; rw [if_neg (fun e => e.2 e2)]
      refine inflate_state_code.c (s := t) (ls := dl) (half := true) h (fun cb w e1 e3 h => ⟨_, rfl, ?_⟩) (fun w e1 e3 h => ⟨_, rfl, ?_⟩) (fun e3 => absurd e1 e3)
      · have ec2 : zcode dl z1 = z1 := by unfold zcode; rw [if_neg (fun e => e.2 e3)]
        rw [ec, ec2, if_neg (by simpa using e1)] at hk
        have h0 := h
        obtain ⟨o, h⟩ := zt_o h
        refine nz_i (h.fI (br_no (by simpa using e1) ?_))
        exact inflate_state_coded.loop (ca := ca) (cb := cb) (ll := ll) (dl := dl) h0 hN hp1 hm hL1 fun w h => hk w (h.tail fun _ _ _ h => h.drop.drop)
      · refine bad (zfail 2 z1) w ?_ (zfail_ne (by decide)) (h.tail fun _ _ _ h => h.drop) _ _
        rw [ec]; unfold zcode; rw [if_pos ⟨e1, e3⟩]
    · have ec : zcode ll z1 = zfail 2 z1 := by unfold zcode; rw [if_pos ⟨e1, e2⟩]
      have hne : (zfail 2 z1).2.2 ≠ 0 := zfail_ne (by decide)
      refine inflate_state_code.c (s := t) (ls := dl) (half := true) h (fun cb w e1 e3 h => absurd e1 hne) (fun w e1 e3 h => absurd e1 hne) (fun e3 => ⟨_, rfl, ?_⟩)
      exact bad _ w (by rw [ec, zcode_no _ hne]) hne h _ _
    · refine inflate_state_code.c (s := t) (ls := dl) (half := true) h (fun cb w e2 e3 h => absurd e2 e1) (fun w e2 e3 h => absurd e2 e1) (fun e3 => ⟨_, rfl, ?_⟩)
      exact bad _ w (by rw [zcode_no ll e1, zcode_no _ e1]) e1 h _ _
  have h0 := h
  obtain ⟨o, h⟩ := zt_o h
  refine nz_i (h.fI ?_)
  refine br_b (fun g => ?_) (fun g => ?_)
  · have g : z.2.2 = 0 := by simpa using g
    refine h.lx (s := s) 256 rfl hll ?_
    refine br_b (fun g2 => ?_) (fun g2 => ?_)
    · refine inflate_state_fail.c h0 fun w h => ⟨rfl, ?_⟩
      exact j1 _ w (by rw [if_pos ⟨g, by simpa using g2⟩]) h
    · have g3 : ll.getD 256 0 ≠ 0 := by intro e; rw [e] at g2; simp at g2
      exact j1 _ w (by rw [if_neg (fun e => g3 e.2)]) h0
  · exact j1 _ w (by rw [if_neg (fun e => by simp [e.1] at g)]) h0

theorem zst_len (hm : most ≤ 1000000) {B : List Bool} : ∀ n (z : Z), z.2.1.length ≤ 1000000 → (zst B most n z).2.1.length ≤ 1000000 := by
  intro n
  induction n with
  | zero => intro z h; exact h
  | succ n ih => intro z h; rw [zst]; exact ih _ (zput_len _ hm (by rw [zget_out]; exact h))

theorem inflate_state_stored.c {K : Ending → World → Prop} (h : St F0 w0 w (ztA sb rb V N most z :: ps)) (hN : N ≤ 137438953472) (hp : z.1 ≤ 8 * N) (hm : most ≤ 1000000) (hm0 : 0 ≤ most) (hL : z.2.1.length ≤ 1000000)
    (hk : ∀ w', (zstored (bitsOf V (8 * N)) most z).1 ≤ 8 * N → St F0 w0 w' (ztA sb rb V N most (zstored (bitsOf V (8 * N)) most z) :: ps) → K (.returned (.tuple ⟨[]⟩)) w') :
    Calls Try.prog 168 ⟨[.pointer (some ⟨sb, 0, none⟩)]⟩ w K := by
  refine ret_k (inflate_state_stored.ok _ _ _ ?_)
  unfold inflate_state_stored
  unfold zstored at hk
  simp only at hk
  obtain ⟨o, h⟩ := zt_o h
  refine nz_i (h.fP ?_)
  have h : St F0 w0 w (rrA rb V N z.1 :: blkA sb [.pointer (some ⟨rb, 0, none⟩), .slice o.a o.len o.cap, .int .i64 most, .int .i64 z.2.2] :: ownA 1 o (u8s z.2.1) :: ps) := h.at1
  refine bits_Reader_Align.c h (by omega) fun w h => ⟨rfl, ?_⟩
  have h : St F0 w0 w (bitA rb (V, N, 8 * ((z.1 + 7) / 8)) :: blkA sb [.pointer (some ⟨rb, 0, none⟩), .slice o.a o.len o.cap, .int .i64 most, .int .i64 z.2.2] :: ownA 1 o (u8s z.2.1) :: ps) := h
  have h := zt_c (p := 8 * ((z.1 + 7) / 8)) (out := z.2.1) h.at1
  have hz0 : (8 * ((z.1 + 7) / 8), z.2.1, z.2.2).1 ≤ 8 * N := by simp only; omega
  have hz0L : ((8 * ((z.1 + 7) / 8), z.2.1, z.2.2) : Z).2.1.length ≤ 1000000 := hL
  generalize ((8 * ((z.1 + 7) / 8), z.2.1, z.2.2) : Z) = z0 at h hk hz0 hz0L
  refine inflate_state_get.c h hN hz0 fun w hg h => ⟨_, rfl, ?_⟩
  have gl := zget_lt (B := bitsOf V (8 * N)) (z := z0) 16
  have go := zget_out (B := bitsOf V (8 * N)) (z := z0) 16
  generalize zget (bitsOf V (8 * N)) 16 z0 = g at h hk hg gl go ⊢
  refine inflate_state_get.c h hN hg fun w hg2 h => ⟨_, rfl, ?_⟩
  have go2 := zget_out (B := bitsOf V (8 * N)) (z := g.2) 16
  generalize zget (bitsOf V (8 * N)) 16 g.2 = g2 at h hk hg2 go2 ⊢
  have hgL : g2.2.2.1.length ≤ 1000000 := by rw [go2, go]; exact hz0L
  unfold inflate_state_stored.j1
  have h0 := h
  obtain ⟨o, h⟩ := zt_o h
  refine nz_i (h.fI ?_)
  refine br_b (fun g3 => ?_) (fun g3 => ?_)
  · have g3 : g2.2.2.2 ≠ 0 := by simpa using g3
    rw [if_pos g3] at hk
    exact hk w hg2 h0
  have g3 : g2.2.2.2 = 0 := by simpa using g3
  rw [if_neg (by simpa using g3)] at hk
  refine lt_i ?_
  refine br_b (fun g4 => ?_) (fun g4 => ?_)
  · rw [if_pos (by simpa using g4)] at hk
    exact inflate_state_fail.c h0 fun w h => ⟨rfl, hk w hg2 h⟩
  rw [if_neg (by simpa using g4)] at hk
  have hol := h.at2.len
  rw [ivs_length] at hol
  have pl : (2 : Int) ^ (16 : Int).toNat = 65536 := by decide
  rw [pl] at gl
  have h00 := h0.drew
  refine h.drewK fun w h => ?_
  have h0 := zt_c (p := g2.2.1) h
  refine nz_i (h.fI (nz_i (h.fL ?_)))
  refine lt_as (wrap_i64 (by simp only; omega) (by simp only; omega)) ?_
  refine br_d (fun g5 => ?_) (fun g5 => ?_)
  · have g5 : g.1 > most - ((o.len : Nat) : Int) := g5
    rw [if_pos (by omega)] at hk
    exact inflate_state_fail.c h0 fun w h => ⟨rfl, hk w hg2 h⟩
  have g5 : ¬ g.1 > most - ((o.len : Nat) : Int) := g5
  rw [if_neg (by omega)] at hk
  have h0 : St F0 w0 w (ztA sb rb V N most g2.2 :: ps) := h0
  clear h hol g4 g5
  obtain ⟨n, hn⟩ : ∃ k : Nat, g.1 = k := ⟨g.1.toNat, by omega⟩
  rw [hn] at hk gl ⊢
  rw [Int.toNat_natCast] at hk
  generalize g2.2 = z2 at hk h0 hg2 hgL
  unfold inflate_state_stored.j2
  refine loop1 (fun (a : Nat × Z) (i' : Int) w' => i' = a.1 ∧ a.1 ≤ n ∧ a.2.1 ≤ 8 * N ∧ a.2.2.1.length ≤ 1000000 ∧ zst (bitsOf V (8 * N)) most (n - a.1) a.2 = zst (bitsOf V (8 * N)) most n z2 ∧ St F0 w0 w' (ztA sb rb V N most a.2 :: ps)) (fun a => n - a.1) (0, z2) ⟨rfl, by simp, hg2, hgL, rfl, h0⟩ ?_
  clear h0 hg2 hgL
  rintro ⟨i, z3⟩ i' wL I μ ⟨rfl, hi, hp3, hL3, hz, h⟩ hin
  simp only at hi hp3 hL3 hz h hin ⊢
  unfold inflate_state_stored.b1
  refine br_d (fun g1 => ?_) (fun g1 => ?_)
  · obtain ⟨f, hf⟩ : ∃ f, n - i = f + 1 := ⟨n - i - 1, by omega⟩
    rw [hf, zst] at hz
    refine inflate_state_get.c h hN hp3 fun w hg h => ⟨_, rfl, ?_⟩
    have gl := zget_lt (B := bitsOf V (8 * N)) (z := z3) 8
    have go := zget_out (B := bitsOf V (8 * N)) (z := z3) 8
    generalize zget (bitsOf V (8 * N)) 8 z3 = g at h hz hg gl go ⊢
    have pl : (2 : Int) ^ (8 : Int).toNat = 256 := by decide
    rw [pl] at gl
    refine lt_i ?_
    rw [wrap_u8, show g.1 % 256 = g.1 by omega]
    refine inflate_state_put.c h (by rw [go]; omega) fun w h => ⟨rfl, ?_⟩
    refine lt_as (wrap_i64 (by omega) (by omega)) ?_
    refine ⟨⟨rfl, rfl⟩, hin (i + 1, zput most g.1 g.2) _ _ ⟨by simp, by simp only; omega, by simp only; rw [zput_p]; exact hg, zput_len _ hm (by rw [go]; exact hL3), ?_, h⟩ (by simp only; omega)⟩
    simp only
    rw [show n - (i + 1) = f by omega]
    exact hz
  · have : i = n := by omega
    subst this
    rw [Nat.sub_self, zst] at hz
    rw [← hz] at hk
    exact hk wL hp3 h

end

end Go.Proofs.Ytkajimndclhgaaa

/- DEFLATE read: the fixed lengths, a block, all blocks. Own work. -/
namespace Go.Proofs.Ytkajimndclhgaaa
open Go Go.Proofs
set_option linter.unusedVariables false
set_option linter.unusedSimpArgs false
attribute [local irreducible] apK cpK mkK br

theorem flit_length : flit.length = 288 := by unfold flit; simp only [List.length_append, List.length_replicate]
theorem flit_get {i : Nat} (h : i < 288) : flit.getD i 0 = if i < 144 then 8 else if i < 256 then 9 else if i < 280 then 7 else 8 := by
  unfold flit
  rw [List.getD, List.getElem?_append, List.length_replicate]
  by_cases h1 : i < 144
  · rw [if_pos h1, if_pos h1, List.getElem?_replicate, if_pos h1]; rfl
  rw [if_neg h1, if_neg h1, List.getElem?_append, List.length_replicate]
  by_cases h2 : i < 256
  · rw [if_pos (by omega), if_pos h2, List.getElem?_replicate, if_pos (by omega)]; rfl
  rw [if_neg (by omega), if_neg h2, List.getElem?_append, List.length_replicate]
  by_cases h3 : i < 280
  · rw [if_pos (by omega), if_pos h3, List.getElem?_replicate, if_pos (by omega)]; rfl
  rw [if_neg (by omega), if_neg h3, List.getElem?_replicate, if_pos (by omega)]; rfl
theorem fdist_length : fdist.length = 32 := by unfold fdist; simp only [List.length_replicate]
theorem fdist_get {i : Nat} (h : i < 32) : fdist.getD i 0 = 5 := by
  unfold fdist
  rw [List.getD, List.getElem?_replicate, if_pos h]; rfl

section
variable {F0 : List Nat} {w0 w : World} {ps rest rest2 : List As} {sb rb V N : Nat} {most : Int} {z : Z}

theorem slices_Clip_ints.c {s : Sl} {cs : List Value} {K : Ending → World → Prop} (h : St F0 w0 w (rdA 1 s cs :: ps)) (hc : s.len ≤ s.cap)
    (hk : ∀ s' : Sl, s'.len = s.len → s'.cap = s.len → St F0 w0 w (rdA 1 s' cs :: ps) → K (.returned (.slice s'.a s'.len s'.cap)) w) : Calls Try.prog 150 ⟨[.slice s.a s.len s.cap]⟩ w K := by
  refine ret_k (slices_Clip_int.ok _ _ _ ?_)
  unfold slices_Clip_int
  refine ⟨⟨by omega, by omega⟩, ⟨by omega, by omega⟩, lt_i ?_⟩
  refine hk ⟨_, _, _⟩ (by simp) (by simp) (h.recap ?_ (by simp))
  show cutA s.a _ 0 1 = s.a
  unfold cutA
  split
  · rfl
  · cases s.a with
    | none => rfl
    | some a => simp [Addr.add]

theorem inflate_Fixed.c {K : Ending → World → Prop} (h : St F0 w0 w ps)
    (hk : ∀ s t w', s.len = 288 → t.len = 32 → St F0 w0 w' (rdA 1 s (ivs .i64 flit) :: rdA 1 t (ivs .i64 fdist) :: ps) → K (.returned (.tuple ⟨[.slice s.a s.len s.cap, .slice t.a t.len t.cap]⟩)) w') : Calls Try.prog 114 ⟨[]⟩ w K := by
  refine ret_k (inflate_Fixed.ok _ _ ?_)
  unfold inflate_Fixed inflate_Fixed.j1 inflate_Fixed.j5
  have e0 : ownA 1 ⟨none, 0, 0⟩ [] = ownA 1 ⟨none, 0, 0⟩ (ivs .i64 (flit.take 0)) := rfl
  refine loop2 (fun (i : Nat) (o : Sl) (i' : Int) w' => i' = i ∧ i ≤ 288 ∧ St F0 w0 w' (ownA 1 o (ivs .i64 (flit.take i)) :: ps)) (fun i => 288 - i) 0 ⟨rfl, by omega, h.nil 1⟩ ?_
  clear h
  rintro i o i' wL I μ ⟨rfl, hi, h⟩ hin
  unfold inflate_Fixed.b2
  refine br_d (fun g => ?_) (fun g => ?_)
  · have hi2 : i < 288 := by omega
    have j9 : ∀ n : Int, n = flit.getD i 0 → inflate_Fixed.j9 o ⟨none, 0, 0⟩ n (i : Int) (fun v w' => K (.returned v) w') (fun d' o' i' w' => d' = ⟨none, 0, 0⟩ ∧ I o' i' w' ∧ μ o' i' w' < μ o (i : Int) wL) wL := by
      intro n hn
      unfold inflate_Fixed.j9
      refine h.pushI (s := o) (by rw [List.length_take]; omega) fun o2 w h => ?_
      unfold inflate_Fixed.j7
      refine lt_as (wrap_i64 (by omega) (by omega)) ?_
      rw [hn, ← take_next (by rw [flit_length]; exact hi2)] at h
      exact ⟨rfl, hin (i + 1) _ _ _ ⟨by omega, by omega, h⟩ (by omega)⟩
    have hg := flit_get hi2
    unfold inflate_Fixed.j6 inflate_Fixed.j8 inflate_Fixed.j10
    refine br_d (fun g1 => ?_) (fun g1 => ?_)
    · rw [if_neg (by omega)] at hg
      refine br_d (fun g2 => ?_) (fun g2 => ?_)
      · exact j9 9 (by rw [hg, if_pos (by omega)])
      · rw [if_neg (by omega)] at hg
        refine br_d (fun g3 => ?_) (fun g3 => by omega)
        refine br_d (fun g4 => ?_) (fun g4 => ?_)
        · exact j9 7 (by rw [hg, if_pos (by omega)])
        · exact j9 8 (by rw [hg, if_neg (by omega)])
    · rw [if_pos (by omega)] at hg
      refine br_f1 ?_
      refine br_d (fun g3 => by omega) (fun g3 => ?_)
      exact j9 8 hg.symm
  · have : i = 288 := by omega
    subst this
    rw [List.take_of_length_le (by rw [flit_length]; omega)] at h
    unfold inflate_Fixed.j2 inflate_Fixed.j4
    refine loop2 (fun (i : Nat) (d : Sl) (i' : Int) w' => i' = i ∧ i ≤ 32 ∧ St F0 w0 w' (ownA 1 d (ivs .i64 (fdist.take i)) :: ownA 1 o (ivs .i64 flit) :: ps)) (fun i => 32 - i) 0 ⟨rfl, by omega, h.nil 1⟩ ?_
    clear h hin
    rintro i d i' wL2 I2 μ2 ⟨rfl, hi, h⟩ hin
    unfold inflate_Fixed.b1
    refine br_d (fun g => ?_) (fun g => ?_)
    · have hi2 : i < 32 := by omega
      refine h.pushI (s := d) (by rw [List.length_take]; omega) fun d2 w h => ?_
      refine lt_as (wrap_i64 (by omega) (by omega)) ?_
      rw [show (5 : Int) = fdist.getD i 0 by rw [fdist_get hi2], ← take_next (by rw [fdist_length]; exact hi2)] at h
      exact ⟨rfl, hin (i + 1) _ _ _ ⟨by omega, by omega, h⟩ (by omega)⟩
    · have : i = 32 := by omega
      subst this
      rw [List.take_of_length_le (by rw [fdist_length]; omega)] at h
      unfold inflate_Fixed.j3
      have c1 := h.cap (by decide)
      have c2 := h.at1.cap (by decide)
      have l1 := h.len
      have l2 := h.at1.len
      rw [ivs_length, fdist_length] at l1
      rw [ivs_length, flit_length] at l2
      refine slices_Clip_ints.c h.at1.ro c2 fun s h1 h2 h => ⟨s, rfl, ?_⟩
      refine slices_Clip_ints.c h.at1.ro c1 fun t h3 h4 h => ⟨t, rfl, ?_⟩
      exact hk s t wL2 (by omega) (by omega) h.at1

theorem zblk_p {ll dl : List Int} {B : List Bool} : ∀ f (z : Z), z.1 ≤ B.length → (zcoded ll dl B most f z).1 ≤ B.length := by
  intro f
  induction f with
  | zero => intro z h; exact h
  | succ f ih =>
    intro z h
    rw [zcoded]
    split
    · exact h
    · have h1 := (zsym_fwd (B := B) ll h).2
      simp only
      split
      · exact h1
      · split
        · exact ih _ (by rw [zput_p]; exact h1)
        · exact ih _ (zbehind_fwd dl _ h1).2

theorem zcoded_len {ll dl : List Int} {B : List Bool} (hm : most ≤ 1000000) : ∀ f (z : Z), z.2.1.length ≤ 1000000 → (zcoded ll dl B most f z).2.1.length ≤ 1000000 := by
  intro f
  induction f with
  | zero => intro z h; exact h
  | succ f ih =>
    intro z h
    rw [zcoded]
    split
    · exact h
    · simp only
      split
      · rw [zsym_out]; exact h
      · split
        · exact ih _ (zput_len _ hm (by rw [zsym_out]; exact h))
        · exact ih _ (zbehind_len dl _ hm (by rw [zsym_out]; exact h))

theorem zblock_len {B : List Bool} (hm : most ≤ 1000000) (h : z.2.1.length ≤ 1000000) : (zblock B most z).2.2.1.length ≤ 1000000 := by
  have hk : (zget B 2 (zget B 1 z).2).2.2.1.length ≤ 1000000 := by rw [zget_out, zget_out]; exact h
  unfold zblock
  simp only
  generalize zget B 2 (zget B 1 z).2 = k at hk ⊢
  split
  · exact hk
  · split
    · unfold zstored
      simp only
      split
      · rw [zget_out, zget_out]; exact hk
      · split
        · show (zget _ _ _).2.2.1.length ≤ _
          rw [zget_out, zget_out]; exact hk
        · split
          · show (zget _ _ _).2.2.1.length ≤ _
            rw [zget_out, zget_out]; exact hk
          · exact zst_len hm _ _ (by rw [zget_out, zget_out]; exact hk)
    · split
      · unfold zblk
        simp only
        have h2 : (zcode fdist (zcode flit (if k.2.2.2 = 0 ∧ flit.getD 256 0 = 0 then zfail 2 k.2 else k.2))).2.1.length ≤ 1000000 := by
          rw [zcode_out, zcode_out]
          split
          · exact hk
          · exact hk
        generalize zcode fdist (zcode flit (if k.2.2.2 = 0 ∧ flit.getD 256 0 = 0 then zfail 2 k.2 else k.2)) = z3 at h2 ⊢
        split
        · exact h2
        · exact zcoded_len hm _ _ h2
      · exact hk

theorem inflate_state_block.c {K : Ending → World → Prop} (h : St F0 w0 w (ztA sb rb V N most z :: ps)) (h2 : znot2 (bitsOf V (8 * N)) z) (hN : N ≤ 137438953472) (hp : z.1 ≤ 8 * N) (hm : most ≤ 1000000) (hm0 : 0 ≤ most) (hL : z.2.1.length ≤ 1000000)
    (hk : ∀ w', (zblock (bitsOf V (8 * N)) most z).2.1 ≤ 8 * N → St F0 w0 w' (ztA sb rb V N most (zblock (bitsOf V (8 * N)) most z).2 :: ps) → K (.returned (.bool (zblock (bitsOf V (8 * N)) most z).1)) w') :
    Calls Try.prog 151 ⟨[.pointer (some ⟨sb, 0, none⟩)]⟩ w K := by
  have hBl : (bitsOf (V : Int) (8 * N)).length = 8 * N := bitsOf_length _ _
  refine ret_k (inflate_state_block.ok _ _ _ ?_)
  unfold inflate_state_block
  unfold zblock at hk
  unfold znot2 at h2
  simp only at hk
  refine inflate_state_get.c h hN hp fun w hg h => ⟨_, rfl, ?_⟩
  have go := zget_out (B := bitsOf V (8 * N)) (z := z) 1
  generalize zget (bitsOf V (8 * N)) 1 z = a at h h2 hk hg go ⊢
  refine inflate_state_get.c h hN hg fun w hg2 h => ⟨_, rfl, ?_⟩
  have go2 := zget_out (B := bitsOf V (8 * N)) (z := a.2) 2
  generalize zget (bitsOf V (8 * N)) 2 a.2 = k at h h2 hk hg2 go2 ⊢
  have hkL : k.2.2.1.length ≤ 1000000 := by rw [go2, go]; exact hL
  have h0 := h
  obtain ⟨o, h⟩ := zt_o h
  refine nz_i (h.fI ?_)
  refine br_b (fun g => ?_) (fun g => ?_)
  · have g : k.2.2.2 ≠ 0 := by simpa using g
    rw [if_pos g] at hk
    exact hk w hg2 h0
  have g : k.2.2.2 = 0 := by simpa using g
  rw [if_neg (by simpa using g)] at hk
  have h2 : k.1 ≠ 2 := h2.resolve_left (fun e => e g)
  refine br_b (fun g1 => ?_) (fun g1 => ?_)
  · have g1 : k.1 = 0 := by simpa using g1
    rw [if_pos g1] at hk
    exact inflate_state_stored.c h0 hN hg2 hm hm0 hkL fun w hle h => ⟨rfl, hk w hle h⟩
  have g1 : ¬ k.1 = 0 := by simpa using g1
  rw [if_neg g1] at hk
  refine br_b (fun g3 => ?_) (fun g3 => ?_)
  · have g3 : k.1 = 1 := by simpa using g3
    rw [if_pos g3] at hk
    refine inflate_Fixed.c h0 fun s t w hs ht h => ⟨s, t, rfl, ?_⟩
    have h : St F0 w0 w (ztA sb rb V N most k.2 :: rdA 1 s (ivs .i64 flit) :: rdA 1 t (ivs .i64 fdist) :: ps) := h.at2
    refine inflate_state_coded.c (s := s) (t := t) (ll := flit) (dl := fdist) h (by rw [flit_length]; decide) hN hg2 hm hkL fun w h => ⟨rfl, ?_⟩
    refine hk w ?_ (h.tail fun _ _ _ h => h.drop.drop)
    unfold zblk
    simp only
    have e1 : (zcode fdist (zcode flit (if k.2.2.2 = 0 ∧ flit.getD 256 0 = 0 then zfail 2 k.2 else k.2))).1 ≤ 8 * N := by
      rw [zcode_p, zcode_p]
      split
      · exact hg2
      · exact hg2
    generalize zcode fdist (zcode flit (if k.2.2.2 = 0 ∧ flit.getD 256 0 = 0 then zfail 2 k.2 else k.2)) = z3 at e1 ⊢
    split
    · exact e1
    · have := zblk_p (most := most) (ll := flit) (dl := fdist) (B := bitsOf V (8 * N)) ((bitsOf (V : Int) (8 * N)).length + 1) _ (by rw [hBl]; exact e1)
      rw [hBl] at this ⊢
      exact this
  have g3 : ¬ k.1 = 1 := by simpa using g3
  rw [if_neg g3] at hk
  refine br_no (by simpa using h2) ?_
  exact inflate_state_fail.c h0 fun w h => ⟨rfl, hk w hg2 h⟩

theorem inflate_Inflate.c {s : Sl} {K : Ending → World → Prop} {n : Nat} {z' : Z} (h : St F0 w0 w ps) [Rdb F0 w0 s ps 1 (u8s (byt V N))] (hN : N ≤ 137438953472) (hm : most ≤ 262144) (hm0 : 0 ≤ most) (hr : ZRun (bitsOf V (8 * N)) most n (0, [], 0) z')
    (hk : ∀ t w', z'.2.2 = 0 → t.len = z'.2.1.length → St F0 w0 w' (rdA 1 t (u8s z'.2.1) :: ps) → K (.returned (.tuple ⟨[.slice t.a t.len t.cap, .int .i64 (((z'.1 + 7) / 8 : Nat) : Int), .int .i64 0]⟩)) w')
    (hk2 : ∀ w', z'.2.2 ≠ 0 → St F0 w0 w' ps → K (.returned (.tuple ⟨[.slice none 0 0, .int .i64 0, .int .i64 z'.2.2]⟩)) w') :
    Calls Try.prog 121 ⟨[.slice s.a s.len s.cap, .int .i64 most]⟩ w K := by
  refine ret_k (inflate_Inflate.ok _ _ _ _ ?_)
  unfold inflate_Inflate inflate_Inflate.j1
  refine br_d (fun g => by omega) fun _ => ?_
  refine br_d (fun g => by omega) fun _ => ?_
  refine bits_NewReader.c (V := V) (N := N) (s := s) h (h.rdb s) hN fun rb w h => ⟨_, rfl, ?_⟩
  refine h.new fun sb w h => ?_
  have h := (h.nil 1).at2.at2
  have h : St F0 w0 w (ztA sb rb V N most (0, [], 0) :: ps) := zt_c (o := ⟨none, 0, 0⟩) (p := 0) (out := []) (err := 0) h
  unfold inflate_Inflate.j2 inflate_Inflate.j4
  refine loop1 (fun (a : Nat × Z × Bool) (b : Bool) w' => b = a.2.2 ∧ a.2.1.1 ≤ 8 * N ∧ a.2.1.2.1.length ≤ 1000000 ∧ a.2.1.2.2 = 0 ∧ (a.2.2 = false → ∃ n, n < a.1 ∧ ZRun (bitsOf V (8 * N)) most n a.2.1 z') ∧ (a.2.2 = true → a.2.1 = z') ∧ St F0 w0 w' (ztA sb rb V N most a.2.1 :: ps)) (fun a => a.1) (n + 1, (0, [], 0), false) ⟨rfl, Nat.zero_le _, by simp, rfl, fun _ => ⟨n, by simp, hr⟩, fun e => by simp at e, h⟩ ?_
  clear h hr
  rintro ⟨m, z, b⟩ b' wL I μ ⟨rfl, hp, hL, he0, hr, hd, h⟩ hin
  simp only at hp hL he0 hr hd h hin ⊢
  unfold inflate_Inflate.b1
  cases b' with
  | false =>
    refine br_t1 ?_
    obtain ⟨n, hn, hr⟩ := hr rfl
    have h2 : znot2 (bitsOf V (8 * N)) z := by cases hr <;> assumption
    refine inflate_state_block.c h h2 hN hp (by omega) hm0 hL fun w hle h => ⟨_, rfl, ?_⟩
    have hL2 := zblock_len (B := bitsOf V (8 * N)) (most := most) (by omega) hL
    have h0 := h
    obtain ⟨o, h⟩ := zt_o h
    refine nz_i (h.fI ?_)
    refine br_b (fun g => ?_) (fun g => ?_)
    · have g : (zblock (bitsOf V (8 * N)) most z).2.2.2 ≠ 0 := by simpa using g
      refine h.drewK fun w h => ?_
      refine nz_i (h.fI ?_)
      cases hr with
      | bad _ he => exact hk2 w g h.drop.drop.drop
      | last _ he _ => exact absurd he g
      | next _ he _ _ => exact absurd he g
    · have g : (zblock (bitsOf V (8 * N)) most z).2.2.2 = 0 := by simpa using g
      cases hr with
      | bad _ he => exact absurd g he
      | last _ he hl =>
        refine ⟨rfl, hin (0, (zblock (bitsOf V (8 * N)) most z).2, true) _ _ ⟨hl, hle, hL2, g, fun e => by simp at e, fun _ => rfl, h0⟩ (by simp only; omega)⟩
      | next _ he hl hr =>
        rename_i n2 h9
        refine ⟨rfl, hin (n2 + 1, (zblock (bitsOf V (8 * N)) most z).2, false) _ _ ⟨hl, hle, hL2, g, fun _ => ⟨n2, by simp, hr⟩, fun e => by simp at e, h0⟩ (by simp only; omega)⟩
  | true =>
    refine br_f1 ?_
    have hd := hd rfl
    subst hd
    unfold inflate_Inflate.j3
    refine h.drewK fun w h => ?_
    obtain ⟨o, h⟩ := zt_o h
    have hcap := h.at2.cap (by decide)
    have hol := h.at2.len
    rw [ivs_length] at hol
    refine nz_i (h.fL (nz_i ⟨?_, ?_⟩))
    · refine slices_Clip_byte.c h.at2.ro hcap fun t h1 h2 h => ⟨t, rfl, ?_⟩
      refine h.at1.fP ?_
      refine bits_Reader_Past.c (rb := rb) (V := V) (N := N) (at' := z.1) h.at2 (by omega) fun h => ⟨_, rfl, ?_⟩
      have h1 : t.len = o.len := h1
      exact hk t w he0 (by omega) (h.at1.tail fun _ _ _ h => h.drop.drop)
    · refine h.fP ?_
      refine slices_Clip_byte.c h.at2.ro hcap fun t h1 h2 h => ⟨t, rfl, ?_⟩
      refine bits_Reader_Past.c (rb := rb) (V := V) (N := N) (at' := z.1) h.at2 (by omega) fun h => ⟨_, rfl, ?_⟩
      have h1 : t.len = o.len := h1
      exact hk t w he0 (by omega) (h.at1.tail fun _ _ _ h => h.drop.drop)

end

end Go.Proofs.Ytkajimndclhgaaa

/- DEFLATE read: the document's tables; what is known; the law of the tables. Own work. -/
namespace Go.Proofs.Ytkajimndclhgaaa
open Go Go.Proofs
set_option linter.unusedVariables false
set_option linter.unusedSimpArgs false
attribute [local irreducible] apK cpK mkK br

def tLenB : List Int := [3, 4, 5, 6, 7, 8, 9, 10, 11, 13, 15, 17, 19, 23, 27, 31, 35, 43, 51, 59, 67, 83, 99, 115, 131, 163, 195, 227, 258]
def tLenX : List Int := [0, 0, 0, 0, 0, 0, 0, 0, 1, 1, 1, 1, 2, 2, 2, 2, 3, 3, 3, 3, 4, 4, 4, 4, 5, 5, 5, 5, 0]
def tDisB : List Int := [1, 2, 3, 4, 5, 7, 9, 13, 17, 25, 33, 49, 65, 97, 129, 193, 257, 385, 513, 769, 1025, 1537, 2049, 3073, 4097, 6145, 8193, 12289, 16385, 24577]
def tDisX : List Int := [0, 0, 0, 0, 1, 1, 2, 2, 3, 3, 4, 4, 5, 5, 6, 6, 7, 7, 8, 8, 9, 9, 10, 10, 11, 11, 12, 12, 13, 13]

theorem zlen_t {v : Int} (h0 : 257 ≤ v) (h1 : v ≤ 285) : zlen v = (tLenB.getD (v - 257).toNat 0, tLenX.getD (v - 257).toNat 0, true) := by
  have : ∀ k : Nat, k < 29 → zlen (257 + (k : Int)) = (tLenB.getD k 0, tLenX.getD k 0, true) := by decide
  have h := this (v - 257).toNat (by omega)
  rwa [show (257 : Int) + ((v - 257).toNat : Int) = v by omega] at h
theorem zdis_t {v : Int} (h0 : 0 ≤ v) (h1 : v ≤ 29) : zdis v = (tDisB.getD v.toNat 0, tDisX.getD v.toNat 0, true) := by
  have : ∀ k : Nat, k < 30 → zdis (k : Int) = (tDisB.getD k 0, tDisX.getD k 0, true) := by decide
  have h := this v.toNat (by omega)
  rwa [show ((v.toNat : Nat) : Int) = v by omega] at h

section
variable {F0 : List Nat} {w0 w : World} {ps rest rest2 : List As}

theorem troveref7_Length.c {v : Int} {K : Ending → World → Prop} (h : St F0 w0 w ps) (hk : ∀ w', St F0 w0 w' ps → K (.returned (.tuple ⟨[.int .i64 (zlen v).1, .int .i64 (zlen v).2.1, .bool (zlen v).2.2]⟩)) w') :
    Calls Try.prog 117 ⟨[.int .i64 v]⟩ w K := by
  refine ret_k (troveref7_Length.ok _ _ _ ?_)
  unfold troveref7_Length
  refine h.new fun na w h => ?_
  refine h.new fun nb w h => ?_
  have h : St F0 w0 w (blkA nb (ivs .i64 tLenX) :: blkA na (ivs .i64 tLenB) :: ps) := h
  have no : ¬ (257 ≤ v ∧ v ≤ 285) → K (.returned (.tuple ⟨[.int .i64 0, .int .i64 0, .bool false]⟩)) w := fun e => by
    have := hk w h.drop.drop
    unfold zlen at this
    rw [if_pos (by omega)] at this
    exact this
  refine br_d (fun g => no (by omega)) (fun g => ?_)
  refine br_d (fun g2 => no (by omega)) (fun g2 => ?_)
  have h := h.ownB (n := 29) rfl
  have h := h.at1.ownB (n := 29) rfl
  refine h.drewK fun w h => ?_
  refine lt_as (wrap_i64 (by omega) (by omega)) ?_
  refine h.lx (s := ⟨some ⟨na, 0, none⟩, 29, 29⟩) (zs := tLenB) (k := .i64) (v - 257).toNat (by omega) (by show _ < 29; omega) ?_
  refine lt_as (wrap_i64 (by omega) (by omega)) ?_
  refine h.lx (s := ⟨some ⟨nb, 0, none⟩, 29, 29⟩) (zs := tLenX) (k := .i64) (v - 257).toNat (by omega) (by show _ < 29; omega) ?_
  have := hk w h.drop.drop
  rw [zlen_t (by omega) (by omega)] at this
  exact this

theorem troveref7_Distance.c {v : Int} {K : Ending → World → Prop} (h : St F0 w0 w ps) (hk : ∀ w', St F0 w0 w' ps → K (.returned (.tuple ⟨[.int .i64 (zdis v).1, .int .i64 (zdis v).2.1, .bool (zdis v).2.2]⟩)) w') :
    Calls Try.prog 119 ⟨[.int .i64 v]⟩ w K := by
  refine ret_k (troveref7_Distance.ok _ _ _ ?_)
  unfold troveref7_Distance
  refine h.new fun na w h => ?_
  refine h.new fun nb w h => ?_
  have h : St F0 w0 w (blkA nb (ivs .i64 tDisX) :: blkA na (ivs .i64 tDisB) :: ps) := h
  have no : ¬ (0 ≤ v ∧ v ≤ 29) → K (.returned (.tuple ⟨[.int .i64 0, .int .i64 0, .bool false]⟩)) w := fun e => by
    have := hk w h.drop.drop
    unfold zdis at this
    rw [if_pos (by omega)] at this
    exact this
  refine br_d (fun g => no (by omega)) (fun g => ?_)
  refine br_d (fun g2 => no (by omega)) (fun g2 => ?_)
  have h := h.ownB (n := 30) rfl
  have h := h.at1.ownB (n := 30) rfl
  refine h.drewK fun w h => ?_
  refine h.lx (s := ⟨some ⟨na, 0, none⟩, 30, 30⟩) (zs := tDisB) (k := .i64) v.toNat (by omega) (by show _ < 30; omega) ?_
  refine h.lx (s := ⟨some ⟨nb, 0, none⟩, 30, 30⟩) (zs := tDisX) (k := .i64) v.toNat (by omega) (by show _ < 30; omega) ?_
  have := hk w h.drop.drop
  rw [zdis_t (by omega) (by omega)] at this
  exact this

theorem troveref7_Fixed.c {K : Ending → World → Prop} (h : St F0 w0 w ps)
    (hk : ∀ s t w', s.len = 288 → t.len = 32 → St F0 w0 w' (ownA 1 t (ivs .i64 fdist) :: ownA 1 s (ivs .i64 flit) :: ps) → K (.returned (.tuple ⟨[.slice s.a s.len s.cap, .slice t.a t.len t.cap]⟩)) w') : Calls Try.prog 115 ⟨[]⟩ w K := by
  refine ret_k (troveref7_Fixed.ok _ _ ?_)
  unfold troveref7_Fixed
  have step : ∀ (l : List Int) (n i : Nat) (v : Int), l.length = n → i < n → v = l.getD i 0 → (l.take i ++ List.replicate (n - i) (0 : Int)).set i v = l.take (i + 1) ++ List.replicate (n - (i + 1)) 0 := by
    intro l n i v hn hi hv
    rw [take_next (by omega), ← hv, List.set_append_right _ _ (by rw [List.length_take]; omega), List.length_take, show i - min i l.length = 0 by omega, show n - i = (n - (i + 1)) + 1 by omega, List.replicate_succ, List.set_cons_zero, List.append_assoc]
    rfl
  refine h.makeI (n := 288) rfl rfl (by decide) fun s w hs _ h => ?_
  unfold troveref7_Fixed.j1 troveref7_Fixed.j6
  refine loop1 (fun (i : Nat) (i' : Int) w' => i' = i ∧ i ≤ 288 ∧ St F0 w0 w' (ownA 1 s (ivs .i64 (flit.take i ++ List.replicate (288 - i) 0)) :: ps)) (fun i => 288 - i) 0 ⟨rfl, by omega, h⟩ ?_
  clear h
  rintro i i' wL I μ ⟨rfl, hi, h⟩ hin
  unfold troveref7_Fixed.b2
  refine br_d (fun g => ?_) (fun g => ?_)
  · have hi2 : i < 288 := by omega
    have hg := flit_get hi2
    have fin : ∀ v : Int, v = flit.getD i 0 → ixS s.a s.len (i : Int) 1 fun a => Go.Proofs.Ytkajimndclhgaaa.st wL a (.int .i64 v) fun w => lt (IntKind.i64.wrap ((i : Int) + 1)) fun x => (s = s ∧ I x w ∧ μ x w < μ (i : Int) wL) := by
      intro v hv
      refine h.sx (s := s) i rfl (by rw [List.length_append, List.length_take, List.length_replicate, flit_length]; omega) fun w h => ?_
      rw [step flit 288 i v flit_length hi2 hv] at h
      refine lt_as (wrap_i64 (by omega) (by omega)) ?_
      exact ⟨rfl, hin (i + 1) _ _ ⟨by omega, by omega, h⟩ (by omega)⟩
    refine br_d (fun g1 => ?_) (fun g1 => ?_)
    · exact fin 8 (by rw [hg, if_pos (by omega)])
    rw [if_neg (by omega)] at hg
    refine br_d (fun g2 => ?_) (fun g2 => ?_)
    · exact fin 9 (by rw [hg, if_pos (by omega)])
    rw [if_neg (by omega)] at hg
    refine br_d (fun g3 => ?_) (fun g3 => ?_)
    · exact fin 7 (by rw [hg, if_pos (by omega)])
    · exact fin 8 (by rw [hg, if_neg (by omega)])
  · have : i = 288 := by omega
    subst this
    rw [List.take_of_length_le (by rw [flit_length]; omega), Nat.sub_self, List.replicate_zero, List.append_nil] at h
    unfold troveref7_Fixed.j2
    clear hin
    refine h.makeI (n := 32) rfl rfl (by decide) fun t w ht _ h => ?_
    unfold troveref7_Fixed.j3 troveref7_Fixed.j5
    refine loop1 (fun (i : Nat) (i' : Int) w' => i' = i ∧ i ≤ 32 ∧ St F0 w0 w' (ownA 1 t (ivs .i64 (fdist.take i ++ List.replicate (32 - i) 0)) :: ownA 1 s (ivs .i64 flit) :: ps)) (fun i => 32 - i) 0 ⟨rfl, by omega, h⟩ ?_
    clear h
    rintro i i' wL I μ ⟨rfl, hi, h⟩ hin
    unfold troveref7_Fixed.b1
    refine br_d (fun g => ?_) (fun g => ?_)
    · have hi2 : i < 32 := by omega
      refine h.sx (s := t) i rfl (by rw [List.length_append, List.length_take, List.length_replicate, fdist_length]; omega) fun w h => ?_
      rw [step fdist 32 i 5 fdist_length hi2 (fdist_get hi2).symm] at h
      refine lt_as (wrap_i64 (by omega) (by omega)) ?_
      exact ⟨⟨rfl, rfl⟩, hin (i + 1) _ _ ⟨by omega, by omega, h⟩ (by omega)⟩
    · have : i = 32 := by omega
      subst this
      rw [List.take_of_length_le (by rw [fdist_length]; omega), Nat.sub_self, List.replicate_zero, List.append_nil] at h
      unfold troveref7_Fixed.j4
      exact hk s t wL hs ht h

/-! ### the fixed codes -/

theorem flit_ok : okL flit := by
  intro x hx
  unfold flit at hx
  simp only [List.mem_append, List.mem_replicate] at hx
  omega
theorem fdist_ok : okL fdist := by
  intro x hx
  unfold fdist at hx
  simp only [List.mem_replicate] at hx
  omega
theorem kr_flit : kr flit = 32768 := by kernel_rfl
theorem kr_fdist : kr fdist = 32768 := by kernel_rfl
theorem hnew_flit : hnew flit true = 0 := by
  have e : hchk flit = (true, 0) := by
    unfold hchk
    rw [if_neg (by rw [flit_length]; decide), if_neg (fun e => e flit_ok), kr_flit, if_neg (by decide)]
    rfl
  unfold hnew
  rw [e]; rfl
theorem hnew_fdist : hnew fdist true = 0 := by
  have e : hchk fdist = (true, 0) := by
    unfold hchk
    rw [if_neg (by rw [fdist_length]; decide), if_neg (fun e => e fdist_ok), kr_fdist, if_neg (by decide)]
    rfl
  unfold hnew
  rw [e]; rfl
theorem zblk_fixed (B : List Bool) (most : Int) (z : Z) : zblk flit fdist B most z = zcoded flit fdist B most (B.length + 1) z := by
  unfold zblk zcode
  simp only [hnew_flit, hnew_fdist]
  rw [show flit.getD 256 0 = 7 from flit_get (by decide)]
  simp only [ne_eq, not_true_eq_false, and_false, if_false, show ¬ (7 : Int) = 0 by decide]
  split
  · rename_i h
    rw [zcoded, if_pos h]
  · rfl

end
end Go.Proofs.Ytkajimndclhgaaa

/- What is written by the fixed codes is read again. Own work. -/
namespace Go.Proofs.Ytkajimndclhgaaa
open Go Go.Proofs
set_option linter.unusedVariables false
set_option linter.unusedSimpArgs false

/-! ### codes -/

theorem hf_flit7 : hf flit 7 = 0 := by kernel_rfl
theorem hf_flit8 : hf flit 8 = 48 := by kernel_rfl
theorem hf_flit9 : hf flit 9 = 400 := by kernel_rfl
theorem hf_fdist : hf fdist 5 = 0 := by kernel_rfl
set_option maxRecDepth 100000 in
theorem hcode_flit {s : Nat} (h : s < 288) : hcode flit s = if s < 144 then 48 + s else if s < 256 then 400 + (s - 144) else if s < 280 then s - 256 else 192 + (s - 280) := by
  unfold hcode
  rw [flit_get h]
  have ct : ∀ m : Int, (flit.take s).count m = (if m = 8 then min s 144 else 0) + ((if m = 9 then min (s - 144) 112 else 0) + ((if m = 7 then min (s - 256) 24 else 0) + (if m = 8 then min (s - 280) 8 else 0))) := by
    intro m
    unfold flit
    have e1 : s - 144 - 112 = s - 256 := Nat.sub_sub s 144 112
    have e2 : s - 256 - 24 = s - 280 := Nat.sub_sub s 256 24
    rw [List.take_append, List.take_append, List.take_append, List.length_replicate, List.length_replicate, List.length_replicate, e1, e2, List.take_replicate, List.take_replicate, List.take_replicate, List.take_replicate]
    rw [List.count_append, List.count_append, List.count_append, List.count_replicate, List.count_replicate, List.count_replicate, List.count_replicate]
    have ec : ∀ (k : Int) (c : Nat), (if (k == m) = true then c else 0) = if m = k then c else 0 := by
      intro k c
      by_cases h : m = k
      · rw [if_pos h, if_pos (by simp [h])]
      · rw [if_neg h, if_neg (by simp; exact fun e => h e.symm)]
    rw [ec, ec, ec, ec]
  by_cases h1 : s < 144
  · simp only [if_pos h1]
    rw [if_pos (by decide), show (8 : Int).toNat = 8 from rfl, hf_flit8, ct]
    simp
    omega
  simp only [if_neg h1]
  by_cases h2 : s < 256
  · simp only [if_pos h2]
    rw [if_pos (by decide), show (9 : Int).toNat = 9 from rfl, hf_flit9, ct]
    simp
    omega
  simp only [if_neg h2]
  by_cases h3 : s < 280
  · simp only [if_pos h3]
    rw [if_pos (by decide), show (7 : Int).toNat = 7 from rfl, hf_flit7, ct]
    simp
    omega
  simp only [if_neg h3]
  rw [if_pos (by decide), show (8 : Int).toNat = 8 from rfl, hf_flit8, ct]
  simp
  omega

theorem hcode_fdist {s : Nat} (h : s < 32) : hcode fdist s = s := by
  unfold hcode
  rw [fdist_get h, if_pos (by decide), show (5 : Int).toNat = 5 from rfl, hf_fdist]
  unfold fdist
  rw [List.take_replicate, List.count_replicate]
  simp
  omega

/-- the bits of symbol s -/
def sbits (ls : List Int) (s : Nat) : List Bool := cbits (hcode ls s) (ls.getD s 0).toNat
theorem sbits_length (ls : List Int) (s : Nat) : (sbits ls s).length = (ls.getD s 0).toNat := cbits_length _ _

/-! ### reading -/

section
variable {B : List Bool} {most : Int}

theorem drop_more {p : Nat} {l r : List Bool} (h : B.drop p = l ++ r) : B.drop (p + l.length) = r := by
  rw [← List.drop_drop, h, List.drop_left' rfl]
theorem drop_len {p : Nat} {l r : List Bool} (h : B.drop p = l ++ r) : l.length ≤ B.length - p := by
  have := congrArg List.length h
  rw [List.length_drop, List.length_append] at this
  omega

theorem zget_at {p : Nat} {l r : List Bool} {out : List Int} {n : Int} (h : B.drop p = l ++ r) (hn : n = l.length) (hl : l.length ≤ 24) (hp : p ≤ B.length) : zget B n (p, out, 0) = ((val l : Int), (p + l.length, out, 0)) := by
  have := drop_len h
  unfold zget
  rw [if_neg (by simp), if_pos (by simp only; omega), h, hn, Int.toNat_natCast, List.take_left' rfl]

theorem zsym_at {ls : List Int} {p s : Nat} {r : List Bool} {out : List Int} (hok : okL ls) (hkr : kr ls ≤ 32768) (hs : s < ls.length) (h0 : 0 < ls.getD s 0) (h : B.drop p = sbits ls s ++ r) : zsym ls B (p, out, 0) = ((s : Int), (p + (sbits ls s).length, out, 0)) := by
  have hm : ls.getD s 0 = (((ls.getD s 0).toNat : Nat) : Int) := by omega
  have h1 := hnext_code hok hs hm (by omega) (b := B) (p := p) (by rw [h]; exact List.take_left' (sbits_length ls s)) (hcode_size hok hkr hs hm (by omega))
  unfold zsym
  rw [if_neg (by simp), h1, sbits_length]

theorem zlit_at {p s : Nat} {r : List Bool} {out : List Int} (hs : s < 288) (h : B.drop p = sbits flit s ++ r) : zsym flit B (p, out, 0) = ((s : Int), (p + (sbits flit s).length, out, 0)) :=
  zsym_at flit_ok (by rw [kr_flit]; decide) (by rw [flit_length]; exact hs) (by rw [flit_get hs]; split; decide; split; decide; split <;> decide) h
theorem zdist_at {p s : Nat} {r : List Bool} {out : List Int} (hs : s < 32) (h : B.drop p = sbits fdist s ++ r) : zsym fdist B (p, out, 0) = ((s : Int), (p + (sbits fdist s).length, out, 0)) :=
  zsym_at fdist_ok (by rw [kr_fdist]; decide) (by rw [fdist_length]; exact hs) (by rw [fdist_get hs]; decide) h

theorem zcp_full (p : Nat) (d : Int) : ∀ (n : Nat) (out : List Int), (out.length + n : Int) ≤ most → zcp most d n (p, out, 0) = (p, tkCopy d n out, 0) := by
  intro n
  induction n with
  | zero => intro out _; rfl
  | succ n ih =>
    intro out h
    rw [zcp, if_neg (by simp), tkCopy]
    simp only
    unfold zput
    rw [if_neg (by simp), if_neg (by simp only; omega)]
    simp only
    exact ih _ (by rw [List.length_append, List.length_singleton]; omega)

theorem zcp_bad (d : Int) (n : Nat) {z : Z} (h : z.2.2 ≠ 0) : zcp most d n z = z := by
  cases n with
  | zero => rfl
  | succ n => rw [zcp, if_pos h]
theorem zcp_short (p : Nat) (d : Int) : ∀ (n : Nat) (out : List Int), (out.length : Int) ≤ most → most < (out.length + n : Int) → (zcp most d n (p, out, 0)).2.2 = 5 := by
  intro n
  induction n with
  | zero => intro out h1 h2; omega
  | succ n ih =>
    intro out h1 h2
    rw [zcp, if_neg (by simp)]
    simp only
    unfold zput
    rw [if_neg (by simp)]
    by_cases h3 : most ≤ (out.length : Int)
    · rw [if_pos h3, zcp_bad _ _ (by simp)]
    · rw [if_neg h3]
      simp only
      exact ih _ (by rw [List.length_append, List.length_singleton]; omega) (by rw [List.length_append, List.length_singleton]; omega)

/-- symbol n, bits e of x, say v -/
def symP (v : Int) (dist : Bool) (n e x : Int) : Prop :=
  (dist = true ∧ 0 ≤ n ∧ n < 30 ∧ ∃ b, zdis n = (b, x, true) ∧ e = v - b ∧ b ≤ v ∧ v < b + 2 ^ x.toNat ∧ 0 ≤ x) ∨
  (dist = false ∧ 257 ≤ n ∧ n ≤ 285 ∧ ∃ b, zlen n = (b, x, true) ∧ e = v - b ∧ b ≤ v ∧ v < b + 2 ^ x.toNat ∧ 0 ≤ x)

/-- bits that say out -/
inductive Fx : List Bool → List Int → Prop
  | nil : Fx [] []
  | lit {bits : List Bool} {out : List Int} {b : Int} (h : Fx bits out) (h0 : 0 ≤ b) (h1 : b < 256) : Fx (bits ++ sbits flit b.toNat) (out ++ [b])
  | copy {bits : List Bool} {out : List Int} {n d s e x s2 e2 x2 : Int} (h : Fx bits out) (h3 : 3 ≤ n) (h258 : n ≤ 258) (hd : 1 ≤ d) (hdo : d ≤ out.length) (hs : symP n false s e x) (hs2 : symP d true s2 e2 x2) :
      Fx (bits ++ (sbits flit s.toNat ++ (bitsOf e x.toNat ++ (sbits fdist s2.toNat ++ bitsOf e2 x2.toNat)))) (tkCopy d n.toNat out)

theorem val_small {e x : Int} (h0 : 0 ≤ e) (h1 : e < 2 ^ x.toNat) : ((val (bitsOf e x.toNat) : Nat) : Int) = e := by
  rw [val_bitsOf]
  exact Int.emod_eq_of_lt h0 h1

theorem zlen_x (v : Int) : (zlen v).2.1 ≤ 6 := by
  have := (zlen_b v).2.2
  omega
theorem zdis_x (v : Int) : (zdis v).2.1 ≤ 14 := by
  have := (zdis_b v).2.2.1
  omega

/-- the step of a copy -/
theorem zbehind_at {p : Nat} {r : List Bool} {out : List Int} {n d s e x s2 e2 x2 : Int} (hn : 3 ≤ n) (hs : symP n false s e x) (hs2 : symP d true s2 e2 x2) (hd : 1 ≤ d) (hp : p ≤ B.length)
    (h : B.drop p = bitsOf e x.toNat ++ (sbits fdist s2.toNat ++ (bitsOf e2 x2.toNat ++ r))) :
    zbehind fdist B most s (p, out, 0) = zcp most d n.toNat (if (out.length : Int) < d then zfail 2 (p + ((bitsOf e x.toNat).length + ((sbits fdist s2.toNat).length + (bitsOf e2 x2.toNat).length)), out, 0) else (p + ((bitsOf e x.toNat).length + ((sbits fdist s2.toNat).length + (bitsOf e2 x2.toNat).length)), out, 0)) := by
  rcases hs with ⟨h1, _⟩ | ⟨_, hs0, hs1, b, hz, he, hb1, hb2, hx0⟩
  · cases h1
  rcases hs2 with ⟨_, hs20, hs21, b2, hz2, he2, hb3, hb4, hx20⟩ | ⟨h1, _⟩
  rotate_left
  · cases h1
  have hx := zlen_x s
  have hx2 := zdis_x s2
  rw [hz] at hx
  rw [hz2] at hx2
  simp only at hx hx2
  have l1 := drop_len h
  have h' := drop_more h
  have l2 := drop_len h'
  have h'' := drop_more h'
  have l3 := drop_len h''
  unfold zbehind
  simp only [hz]
  unfold zok
  simp only [if_true]
  rw [zget_at h (by rw [bitsOf_length]; omega) (by rw [bitsOf_length]; omega) hp]
  simp only
  rw [zdist_at (by omega) h']
  simp only
  rw [show ((s2.toNat : Nat) : Int) = s2 by omega]
  simp only [hz2]
  simp only [if_true]
  rw [zget_at h'' (by rw [bitsOf_length]; omega) (by rw [bitsOf_length]; omega) (by omega)]
  simp only
  rw [val_small (by omega) (by omega), val_small (by omega) (by omega), show b2 + e2 = d by omega, show b + e = n by omega]
  rw [show p + (bitsOf e x.toNat).length + (sbits fdist s2.toNat).length + (bitsOf e2 x2.toNat).length = p + ((bitsOf e x.toNat).length + ((sbits fdist s2.toNat).length + (bitsOf e2 x2.toNat).length)) by omega]

theorem sbits_pos {s : Nat} (hs : s < 288) : 1 ≤ (sbits flit s).length := by
  rw [sbits_length, flit_get hs]
  split
  · decide
  · split
    · decide
    · split <;> decide

/-- a symbol's step -/
theorem zcoded_lit {p : Nat} {r : List Bool} {out : List Int} {b : Int} (h0 : 0 ≤ b) (h1 : b < 256) (f : Nat) (h : B.drop p = sbits flit b.toNat ++ r) :
    zcoded flit fdist B most (f + 1) (p, out, 0) = zcoded flit fdist B most f (zput most b (p + (sbits flit b.toNat).length, out, 0)) := by
  rw [zcoded, if_neg (by simp)]
  simp only
  rw [zlit_at (by omega) h]
  simp only
  rw [if_neg (by omega), if_pos (by omega), show ((b.toNat : Nat) : Int) = b by omega]
theorem zcoded_copy {p : Nat} {r : List Bool} {out : List Int} {s : Int} (h0 : 257 ≤ s) (h1 : s ≤ 285) (f : Nat) (h : B.drop p = sbits flit s.toNat ++ r) :
    zcoded flit fdist B most (f + 1) (p, out, 0) = zcoded flit fdist B most f (zbehind fdist B most s (p + (sbits flit s.toNat).length, out, 0)) := by
  rw [zcoded, if_neg (by simp)]
  simp only
  rw [zlit_at (by omega) h]
  simp only
  rw [if_neg (by omega), if_neg (by omega), show ((s.toNat : Nat) : Int) = s by omega]
theorem zcoded_end {p : Nat} {r : List Bool} {out : List Int} (f : Nat) (h : B.drop p = sbits flit 256 ++ r) :
    zcoded flit fdist B most (f + 1) (p, out, 0) = (p + 7, out, 0) := by
  rw [zcoded, if_neg (by simp)]
  simp only
  rw [zlit_at (by decide) h]
  simp only
  rw [if_pos (show (0 : Int) ≠ 0 ∨ ((256 : Nat) : Int) = 256 from Or.inr rfl), sbits_length, flit_get (by decide)]
  rfl
theorem zcoded_bad (f : Nat) {z : Z} (h : z.2.2 ≠ 0) : zcoded flit fdist B most f z = z := by
  cases f with
  | zero => rfl
  | succ f => rw [zcoded, if_pos h]

theorem symP_len {n s e x : Int} (h : symP n false s e x) : 257 ≤ s ∧ s ≤ 285 := by
  rcases h with ⟨h1, _⟩ | ⟨_, h1, h2, _⟩
  · cases h1
  · exact ⟨h1, h2⟩

theorem Fx.dec {bits : List Bool} {out : List Int} (h : Fx bits out) : ∀ {p : Nat} {r : List Bool}, p ≤ B.length → B.drop p = bits ++ r → (out.length : Int) ≤ most →
    ∃ k, k ≤ bits.length ∧ ∀ f, zcoded flit fdist B most (f + k) (p, [], 0) = zcoded flit fdist B most f (p + bits.length, out, 0) := by
  induction h with
  | nil => intro p r hp hd hm; exact ⟨0, Nat.le_refl _, fun f => rfl⟩
  | @lit bits out b h h0 h1 ih =>
    intro p r hp hd hm
    rw [List.length_append, List.length_singleton] at hm
    rw [List.append_assoc] at hd
    obtain ⟨k, hk, ih⟩ := ih hp hd (by omega)
    have hs := sbits_pos (s := b.toNat) (by omega)
    refine ⟨k + 1, by rw [List.length_append]; omega, fun f => ?_⟩
    rw [show f + (k + 1) = (f + 1) + k by omega, ih, zcoded_lit h0 h1 f (drop_more hd)]
    unfold zput
    rw [if_neg (by simp), if_neg (by simp only; omega), List.length_append, Nat.add_assoc]
  | @copy bits out n d s e x s2 e2 x2 h h3 h258 hdd hdo hs hs2 ih =>
    intro p r hp hd hm
    rw [tkCopy_length] at hm
    rw [List.append_assoc] at hd
    obtain ⟨k, hk, ih⟩ := ih hp hd (by omega)
    have hr := symP_len hs
    have hsp := sbits_pos (s := s.toNat) (by omega)
    refine ⟨k + 1, by simp only [List.length_append]; omega, fun f => ?_⟩
    have l1 := drop_len hd
    have hd2 := drop_more hd
    rw [List.append_assoc] at hd2
    have l2 := drop_len hd2
    have hd3 := drop_more hd2
    simp only [List.append_assoc] at hd3
    rw [show f + (k + 1) = (f + 1) + k by omega, ih, zcoded_copy hr.1 hr.2 f hd2, zbehind_at h3 hs hs2 hdd (by omega) hd3, if_neg (by omega), zcp_full _ _ _ _ (by omega)]
    simp only [List.length_append, Nat.add_assoc]

theorem Fx.short {bits : List Bool} {out : List Int} (h : Fx bits out) : ∀ {p : Nat} {r : List Bool}, p ≤ B.length → B.drop p = bits ++ r → 0 ≤ most → most < (out.length : Int) →
    ∀ f, (zcoded flit fdist B most (f + bits.length) (p, [], 0)).2.2 = 5 := by
  induction h with
  | nil => intro p r hp hd h0 hm; simp at hm; omega
  | @lit bits out b h h0 h1 ih =>
    intro p r hp hd hm0 hm
    rw [List.append_assoc] at hd
    have hs := sbits_pos (s := b.toNat) (by omega)
    intro f
    rw [List.length_append]
    by_cases hle : (out.length : Int) ≤ most
    · obtain ⟨k, hk, hdec⟩ := Fx.dec (most := most) h hp hd hle
      rw [List.length_append, List.length_singleton] at hm
      rw [show f + (bits.length + (sbits flit b.toNat).length) = ((f + (bits.length - k) + ((sbits flit b.toNat).length - 1)) + 1) + k by omega, hdec, zcoded_lit h0 h1 _ (drop_more hd)]
      unfold zput
      rw [if_neg (by simp), if_pos (by simp only; omega), zcoded_bad _ (by simp)]
    · rw [show f + (bits.length + (sbits flit b.toNat).length) = (f + (sbits flit b.toNat).length) + bits.length by omega]
      exact ih hp hd hm0 (by omega) _
  | @copy bits out n d s e x s2 e2 x2 h h3 h258 hdd hdo hs hs2 ih =>
    intro p r hp hd hm0 hm
    rw [List.append_assoc] at hd
    have hr := symP_len hs
    have hsp := sbits_pos (s := s.toNat) (by omega)
    intro f
    rw [tkCopy_length] at hm
    rw [List.length_append, List.length_append]
    by_cases hle : (out.length : Int) ≤ most
    · obtain ⟨k, hk, hdec⟩ := Fx.dec (most := most) h hp hd hle
      have l1 := drop_len hd
      have hd2 := drop_more hd
      rw [List.append_assoc] at hd2
      have l2 := drop_len hd2
      have hd3 := drop_more hd2
      simp only [List.append_assoc] at hd3
      generalize (bitsOf e x.toNat ++ (sbits fdist s2.toNat ++ bitsOf e2 x2.toNat)).length = q
      rw [show f + (bits.length + ((sbits flit s.toNat).length + q)) = ((f + (bits.length - k) + ((sbits flit s.toNat).length - 1) + q) + 1) + k by omega, hdec, zcoded_copy hr.1 hr.2 _ hd2, zbehind_at h3 hs hs2 hdd (by omega) hd3, if_neg (by omega)]
      have h5 := zcp_short (most := most) (p + bits.length + (sbits flit s.toNat).length + ((bitsOf e x.toNat).length + ((sbits fdist s2.toNat).length + (bitsOf e2 x2.toNat).length))) d n.toNat out hle (by omega)
      rw [zcoded_bad _ (by rw [h5]; decide), h5]
    · rw [show f + (bits.length + ((sbits flit s.toNat).length + (bitsOf e x.toNat ++ (sbits fdist s2.toNat ++ bitsOf e2 x2.toNat)).length)) = (f + ((sbits flit s.toNat).length + (bitsOf e x.toNat ++ (sbits fdist s2.toNat ++ bitsOf e2 x2.toNat)).length)) + bits.length by omega]
      exact ih hp hd hm0 (by omega) _

end
end Go.Proofs.Ytkajimndclhgaaa

/- The laws on DEFLATE: what they write. Own work. -/
namespace Go.Proofs.Ytkajimndclhgaaa
open Go Go.Proofs
set_option linter.unusedVariables false
set_option linter.unusedSimpArgs false
attribute [local irreducible] apK cpK mkK br

section
variable {F0 : List Nat} {w0 w : World} {ps rest rest2 : List As}

theorem trovelaw7_known.c {K : Ending → World → Prop} (h : St F0 w0 w ps) (hk : ∀ w', St F0 w0 w' ps → K (.returned (.bool true)) w') : Calls Try.prog 113 ⟨[]⟩ w K := by
  refine ret_k (trovelaw7_known.ok _ _ ?_)
  unfold trovelaw7_known
  have n1 : znot2 (bitsOf ((75 + 76 * 256 + 4 * 65536 : Nat) : Int) (8 * 4)) (0, [], 0) := Or.inr (by rw [show (zget (bitsOf ((75 + 76 * 256 + 4 * 65536 : Nat) : Int) (8 * 4)) 2 (zget (bitsOf ((75 + 76 * 256 + 4 * 65536 : Nat) : Int) (8 * 4)) 1 (0, [], 0)).2).1 = 1 by kernel_rfl]; decide)
  have b1 : zblock (bitsOf ((75 + 76 * 256 + 4 * 65536 : Nat) : Int) (8 * 4)) 100 (0, [], 0) = (true, (26, [97, 97], 0)) := by kernel_rfl
  have n2 : znot2 (bitsOf ((2668514687058177 : Nat) : Int) (8 * 7)) (0, [], 0) := Or.inr (by rw [show (zget (bitsOf ((2668514687058177 : Nat) : Int) (8 * 7)) 2 (zget (bitsOf ((2668514687058177 : Nat) : Int) (8 * 7)) 1 (0, [], 0)).2).1 = 0 by kernel_rfl]; decide)
  have b2 : zblock (bitsOf ((2668514687058177 : Nat) : Int) (8 * 7)) 100 (0, [], 0) = (true, (48, [122], 0)) := by kernel_rfl
  have n3 : znot2 (bitsOf ((7 : Nat) : Int) (8 * 1)) (0, [], 0) := Or.inr (by rw [show (zget (bitsOf ((7 : Nat) : Int) (8 * 1)) 2 (zget (bitsOf ((7 : Nat) : Int) (8 * 1)) 1 (0, [], 0)).2).1 = 3 by kernel_rfl]; decide)
  have b3 : zblock (bitsOf ((7 : Nat) : Int) (8 * 1)) 100 (0, [], 0) = (true, (3, [], 2)) := by kernel_rfl
  have e1 : ([75, 76, 4, 0] : List Int) = byt (75 + 76 * 256 + 4 * 65536) 4 := by kernel_rfl
  have e2 : ([1, 1, 0, 254, 255, 122, 9] : List Int) = byt 2668514687058177 7 := by kernel_rfl
  have e3 : ([7] : List Int) = byt 7 1 := by kernel_rfl
  refine h.new fun na w h => ?_
  have h : St F0 w0 w (blkA na (u8s [75, 76, 4, 0]) :: ps) := h
  have h := h.ownB (n := 4) rfl
  rw [e1] at h
  refine inflate_Inflate.c (s := ⟨some ⟨na, 0, none⟩, 4, 4⟩) (V := 75 + 76 * 256 + 4 * 65536) (N := 4) h (by decide) (by decide) (by decide) (ZRun.last n1 (by rw [b1]) (by rw [b1])) (fun t w _ _ h => ⟨t, _, _, rfl, ?_⟩) (fun w he _ => absurd (by rw [b1]) he)
  rw [b1] at h ⊢
  refine h.new fun nb w h => ?_
  have h : St F0 w0 w (blkA nb (u8s [1, 1, 0, 254, 255, 122, 9]) :: rdA 1 t (u8s [97, 97]) :: ownA 1 ⟨some ⟨na, 0, none⟩, 4, 4⟩ (u8s (byt (75 + 76 * 256 + 4 * 65536) 4)) :: ps) := h
  have h := h.ownB (n := 7) rfl
  rw [e2] at h
  refine inflate_Inflate.c (s := ⟨some ⟨nb, 0, none⟩, 7, 7⟩) (V := 2668514687058177) (N := 7) h (by decide) (by decide) (by decide) (ZRun.last n2 (by rw [b2]) (by rw [b2])) (fun u w _ _ h => ⟨u, _, _, rfl, ?_⟩) (fun w he _ => absurd (by rw [b2]) he)
  rw [b2] at h ⊢
  refine h.new fun nc w h => ?_
  have h : St F0 w0 w (blkA nc (u8s [7]) :: rdA 1 u (u8s [122]) :: ownA 1 ⟨some ⟨nb, 0, none⟩, 7, 7⟩ (u8s (byt 2668514687058177 7)) :: rdA 1 t (u8s [97, 97]) :: ownA 1 ⟨some ⟨na, 0, none⟩, 4, 4⟩ (u8s (byt (75 + 76 * 256 + 4 * 65536) 4)) :: ps) := h
  have h := h.ownB (n := 1) rfl
  rw [e3] at h
  have he3 : (zblock (bitsOf ((7 : Nat) : Int) (8 * 1)) 100 (0, [], 0)).2.2.2 ≠ 0 := by rw [b3]; decide
  refine inflate_Inflate.c (s := ⟨some ⟨nc, 0, none⟩, 1, 1⟩) (V := 7) (N := 1) h (by decide) (by decide) (by decide) (ZRun.bad n3 he3) (fun u w he _ _ => absurd he he3) (fun w he h => ⟨⟨none, 0, 0⟩, _, _, rfl, ?_⟩)
  rw [b3]
  refine lt_as (show IntKind.i64.wrap (0 + 0) = 0 by kernel_rfl) ?_
  refine br_is rfl ?_
  refine h.bt (s := t) (xs := [97, 97]) (by decide) (br_is (by kernel_rfl) (br_is (by kernel_rfl) ?_))
  refine h.bt (s := u) (xs := [122]) (by decide) (br_is (by kernel_rfl) (br_is (by kernel_rfl) ?_))
  exact hk w h.drop.drop.drop.drop.drop

/-! ### symbols put -/

theorem pb_code {c m : Nat} (h : m ≤ 24) : (pb (c : Int) (m : Int)).reverse = cbits c m := by
  unfold pb
  rw [if_pos (by omega), Int.toNat_natCast, cbits_eq]

theorem trovelaw7_put.c {wb s : Nat} {l : List Bool} {K : Ending → World → Prop} (h : St F0 w0 w (rwA wb l :: ps)) (hs : s < 288) (hL : l.length ≤ 274877906944)
    (hk : ∀ w', St F0 w0 w' (rwA wb (l ++ sbits flit s) :: ps) → K (.returned (.tuple ⟨[]⟩)) w') : Calls Try.prog 122 ⟨[.pointer (some ⟨wb, 0, none⟩), .int .i64 (s : Int)]⟩ w K := by
  refine ret_k (trovelaw7_put.ok _ _ _ _ ?_)
  unfold trovelaw7_put
  have hc := hcode_flit hs
  have hg := flit_get hs
  have fin : ∀ c m : Nat, hcode flit s = c → flit.getD s 0 = (m : Int) → m ≤ 24 → Calls Try.prog 43 ⟨[.pointer (some ⟨wb, 0, none⟩), .int .i64 (c : Int), .int .i64 (m : Int)]⟩ w fun e w' => e = .returned (.tuple ⟨[]⟩) ∧ K (.returned (.tuple ⟨[]⟩)) w' := by
    intro c m h1 h2 h3
    refine troveref2_Writer_Code.c h hL fun w h => ⟨rfl, ?_⟩
    rw [pb_code h3] at h
    refine hk w ?_
    unfold sbits
    rw [h1, h2, Int.toNat_natCast]
    exact h
  refine br_d (fun g1 => ?_) (fun g1 => ?_)
  · rw [if_pos (by omega)] at hc hg
    refine lt_as (show IntKind.i64.wrap (48 + (s : Int)) = ((48 + s : Nat) : Int) by rw [wrap_i64 (by omega) (by omega)]; omega) ?_
    exact fin (48 + s) 8 hc hg (by decide)
  rw [if_neg (by omega)] at hc hg
  refine br_d (fun g2 => ?_) (fun g2 => ?_)
  · rw [if_pos (by omega)] at hc hg
    refine lt_as (wrap_i64 (by omega) (by omega)) ?_
    refine lt_as (show IntKind.i64.wrap (400 + (s : Int) - 144) = ((400 + (s - 144) : Nat) : Int) by rw [wrap_i64 (by omega) (by omega)]; omega) ?_
    exact fin _ 9 hc hg (by decide)
  rw [if_neg (by omega)] at hc hg
  refine br_d (fun g3 => ?_) (fun g3 => ?_)
  · rw [if_pos (by omega)] at hc hg
    refine lt_as (show IntKind.i64.wrap ((s : Int) - 256) = ((s - 256 : Nat) : Int) by rw [wrap_i64 (by omega) (by omega)]; omega) ?_
    exact fin _ 7 hc hg (by decide)
  · rw [if_neg (by omega)] at hc hg
    refine lt_as (wrap_i64 (by omega) (by omega)) ?_
    refine lt_as (show IntKind.i64.wrap (192 + (s : Int) - 280) = ((192 + (s - 280) : Nat) : Int) by rw [wrap_i64 (by omega) (by omega)]; omega) ?_
    exact fin _ 8 hc hg (by decide)

theorem zdis_x0 (v : Int) : 0 ≤ (zdis v).2.1 := by
  unfold zdis
  split
  · decide
  · split
    · exact Int.le_refl _
    · simp only; omega
theorem zlen_x0 (v : Int) : 0 ≤ (zlen v).2.1 := by
  unfold zlen
  split
  · decide
  · split
    · exact Int.le_refl _
    · split
      · exact Int.le_refl _
      · simp only; omega

def hit (v b x : Int) : Prop := b ≤ v ∧ v < b + 2 ^ x.toNat

theorem dis_found {v : Int} (h1 : 1 ≤ v) (h2 : v ≤ 32768) (h : ∀ j : Nat, j < 30 → ¬ hit v (tDisB.getD j 0) (tDisX.getD j 0)) : False := by
  have ch : ∀ j : Nat, j < 29 → tDisB.getD (j + 1) 0 = tDisB.getD j 0 + 2 ^ (tDisX.getD j 0).toNat := by decide
  have up : ∀ j : Nat, j < 30 → tDisB.getD j 0 ≤ v := by
    intro j
    induction j with
    | zero => intro _; exact h1
    | succ j ih =>
      intro hj
      have := ih (by omega)
      have h3 := h j (by omega)
      unfold hit at h3
      rw [ch j (by omega)]
      omega
  have h3 := up 29 (by decide)
  have h4 := h 29 (by decide)
  unfold hit at h4
  have e : tDisB.getD 29 0 + 2 ^ (tDisX.getD 29 0).toNat = 32769 := by decide
  omega
theorem len_found {v : Int} (h1 : 3 ≤ v) (h2 : v ≤ 258) (h : ∀ j : Nat, j < 29 → ¬ hit v (tLenB.getD j 0) (tLenX.getD j 0)) : False := by
  have ch : ∀ j : Nat, j < 27 → tLenB.getD (j + 1) 0 = tLenB.getD j 0 + 2 ^ (tLenX.getD j 0).toNat := by decide
  have up : ∀ j : Nat, j < 28 → tLenB.getD j 0 ≤ v := by
    intro j
    induction j with
    | zero => intro _; exact h1
    | succ j ih =>
      intro hj
      have := ih (by omega)
      have h3 := h j (by omega)
      unfold hit at h3
      rw [ch j (by omega)]
      omega
  have h3 := up 27 (by decide)
  have h4 := h 27 (by decide)
  unfold hit at h4
  have e : tLenB.getD 27 0 + 2 ^ (tLenX.getD 27 0).toNat = 259 := by decide
  omega

theorem wrap_u64s {x : Int} (h0 : 0 ≤ x) (h1 : x < 18446744073709551616) : IntKind.u64.wrap x = x := by
  have e : IntKind.u64.wrap x = x % 18446744073709551616 := by simp [IntKind.wrap, IntKind.bits, IntKind.signed]
  rw [e]; omega

theorem trovelaw7_sym.c {v : Int} {dist : Bool} {K : Ending → World → Prop} (h : St F0 w0 w ps) (hd : dist = true → 1 ≤ v ∧ v ≤ 32768) (hd2 : dist = false → 3 ≤ v ∧ v ≤ 258)
    (hk : ∀ n e x w', symP v dist n e x → St F0 w0 w' ps → K (.returned (.tuple ⟨[.int .i64 n, .int .i64 e, .int .i64 x]⟩)) w') : Calls Try.prog 123 ⟨[.int .i64 v, .bool dist]⟩ w K := by
  have hv : 1 ≤ v ∧ v ≤ 32768 := by
    cases dist with
    | true => exact hd rfl
    | false => have := hd2 rfl; omega
  refine ret_k (trovelaw7_sym.ok _ _ _ _ ?_)
  unfold trovelaw7_sym trovelaw7_sym.j1 trovelaw7_sym.j3
  refine loop1 (fun (s : Nat) (s' : Int) w' => s' = s ∧ s ≤ 30 ∧ (dist = true → ∀ j, j < s → ¬ hit v (tDisB.getD j 0) (tDisX.getD j 0)) ∧ (dist = false → ∀ j, j < s → j < 29 → ¬ hit v (tLenB.getD (28 - j) 0) (tLenX.getD (28 - j) 0)) ∧ St F0 w0 w' ps) (fun s => 30 - s) 0 ⟨rfl, by omega, fun _ j hj => by omega, fun _ j hj => by omega, h⟩ ?_
  clear h
  rintro s s' wL I μ ⟨rfl, hs, hD, hL, h⟩ hin
  unfold trovelaw7_sym.b1
  refine br_d (fun g => ?_) (fun g => ?_)
  · have hs : s < 30 := by omega
    have j7 : ∀ (n b x : Int) (ok : Bool) (w : World), 0 ≤ b → b ≤ 100000 → 0 ≤ x → x ≤ 14 → (ok = true → hit v b x → symP v dist n (v - b) x) →
        (¬ (ok = true ∧ hit v b x) → (dist = true → ∀ j, j < s + 1 → ¬ hit v (tDisB.getD j 0) (tDisX.getD j 0)) ∧ (dist = false → ∀ j, j < s + 1 → j < 29 → ¬ hit v (tLenB.getD (28 - j) 0) (tLenX.getD (28 - j) 0))) → St F0 w0 w ps →
        trovelaw7_sym.j7 v dist (s : Int) b x ok n (fun v w' => K (.returned v) w') (fun v' d' s' w' => (v' = v ∧ d' = dist) ∧ I s' w' ∧ μ s' w' < μ (s : Int) wL) w := by
      intro n b x ok w hb0 hb1 hx0 hx1 hyes hno h
      have no : ¬ (ok = true ∧ hit v b x) → trovelaw7_sym.j8 v dist (s : Int) b x n false (fun v w' => K (.returned v) w') (fun v' d' s' w' => (v' = v ∧ d' = dist) ∧ I s' w' ∧ μ s' w' < μ (s : Int) wL) w := by
        intro e
        unfold trovelaw7_sym.j8 trovelaw7_sym.j5
        refine br_f1 (lt_as (wrap_i64 (by omega) (by omega)) ?_)
        exact ⟨⟨rfl, rfl⟩, hin (s + 1) _ _ ⟨by omega, by omega, (hno e).1, (hno e).2, h⟩ (by omega)⟩
      unfold trovelaw7_sym.j7
      refine br_b (fun g1 => ?_) (fun g1 => no (fun e => by rw [e.1] at g1; cases g1))
      refine br_d (fun g2 => ?_) (fun g2 => no (fun e => g2 e.2.1))
      obtain ⟨x, rfl⟩ : ∃ k : Nat, x = k := ⟨x.toNat, by omega⟩
      have hp := pow_le (show x ≤ 14 by omega)
      have hp : 2 ^ x ≤ 16384 := hp
      have hpI : ((2 ^ x : Nat) : Int) = (2 : Int) ^ x := by simp
      generalize 2 ^ x = q at hp hpI
      refine lt_as (wrap_u64s (by omega) (by omega)) ?_
      refine ⟨by omega, ?_⟩
      refine lt_as (show shlV .i64 1 ((x : Nat) : Int) = (q : Int) by
        unfold shlV
        rw [Int.toNat_natCast, show min x IntKind.i64.bits = x by show min x 64 = _; omega, Int.one_mul, ← hpI]
        exact wrap_i64 (by omega) (by omega)) ?_
      refine lt_as (wrap_i64 (by omega) (by omega)) ?_
      unfold hit at hyes no
      rw [Int.toNat_natCast, ← hpI] at hyes no
      by_cases g3 : v < b + (q : Int)
      · rw [decide_eq_true g3]
        unfold trovelaw7_sym.j8
        refine br_t1 (lt_as (wrap_i64 (by omega) (by omega)) ?_)
        exact hk _ _ _ w (hyes g1 ⟨g2, g3⟩) h
      · rw [decide_eq_false g3]
        exact no (fun e => g3 e.2.2)
    unfold trovelaw7_sym.j4
    refine troveref7_Distance.c (v := (s : Int)) h fun w h => ⟨_, _, _, rfl, ?_⟩
    unfold trovelaw7_sym.j6
    have hz := zdis_t (v := (s : Int)) (by omega) (by omega)
    rw [Int.toNat_natCast] at hz
    cases dist with
    | true =>
      refine br_f1 ?_
      have b1 := zdis_b (s : Int)
      have b2 := zdis_x0 (s : Int)
      have b3 := zdis_x (s : Int)
      refine j7 (s : Int) _ _ _ w b1.1 b1.2.1 b2 b3 (fun ok hh => Or.inl ⟨rfl, by omega, by omega, (zdis s).1, ?_, rfl, hh.1, hh.2, b2⟩) (fun e => ⟨fun _ j hj => ?_, fun e => by cases e⟩) h
      · rw [← ok]
      · by_cases hjs : j = s
        · subst hjs
          intro hh
          rw [hz] at e
          exact e ⟨rfl, hh⟩
        · exact hD rfl j (by omega)
    | false =>
      refine br_t1 ?_
      refine lt_as (wrap_i64 (by omega) (by omega)) ?_
      refine troveref7_Length.c h fun w h => ⟨_, _, _, rfl, ?_⟩
      have b1 := zlen_b (285 - (s : Int))
      have b2 := zlen_x0 (285 - (s : Int))
      have b3 := zlen_x (285 - (s : Int))
      refine j7 (285 - (s : Int)) _ _ _ w b1.1 (by omega) b2 (by omega) (fun ok hh => Or.inr ⟨rfl, ?_, by omega, (zlen (285 - (s : Int))).1, ?_, rfl, hh.1, hh.2, b2⟩) (fun e => ⟨fun e => (by cases e), fun _ j hj hj2 => ?_⟩) h
      · rcases Int.lt_or_le (285 - (s : Int)) 257 with h1 | h1
        · exfalso
          unfold zlen at ok
          rw [if_pos (Or.inl h1)] at ok
          cases ok
        · exact h1
      · rw [← ok]
      · by_cases hjs : j = s
        · subst hjs
          intro hh
          have hz2 := zlen_t (v := 285 - (j : Int)) (by omega) (by omega)
          rw [show (285 - (j : Int) - 257).toNat = 28 - j by omega] at hz2
          rw [hz2] at e
          exact e ⟨rfl, hh⟩
        · exact hL rfl j (by omega) hj2
  · exfalso
    have : s = 30 := by omega
    subst this
    cases dist with
    | true => exact dis_found (hd rfl).1 (hd rfl).2 (hD rfl)
    | false =>
      refine len_found (hd2 rfl).1 (hd2 rfl).2 (fun j hj => ?_)
      have := hL rfl (28 - j) (by omega) (by omega)
      rwa [show 28 - (28 - j) = j by omega] at this


/-! ### a fixed block -/

theorem zc_part : zc Try.prog 140 = ⟨[.int .u8 0, .int .i64 0, .int .i64 0]⟩ := by kernel_rfl
theorem St.partN {t : Tk} {K : Addr → World → Prop} (h : St F0 w0 w ps) (hk : ∀ nb w', St F0 w0 w' (blkA nb (tkC t) :: ps) → K ⟨nb, 0, none⟩ w') :
    lt (⟨World.heapSize w, 0, none⟩ : Addr) fun a => lt (World.alloc w (.cells (zc Try.prog 140) 140)) fun w1 => (⟨tkC t⟩ : Array Value).size = 3 ∧ Go.Proofs.Ytkajimndclhgaaa.stA w1 a ⟨tkC t⟩ fun w2 => K a w2 := by
  rw [zc_part]
  refine h.new fun nb w h => ⟨rfl, ?_⟩
  exact h.sA (l := [.int .u8 0, .int .i64 0, .int .i64 0]) rfl rfl (tkC_storable t) fun w h => hk nb w h

theorem pb_bits {e x : Int} (h0 : 0 ≤ x) (h1 : x ≤ 24) : pb e x = bitsOf e x.toNat := by
  unfold pb
  rw [if_pos ⟨h0, h1⟩]
theorem symP_x {v : Int} {dist : Bool} {n e x : Int} (h : symP v dist n e x) : 0 ≤ x ∧ x ≤ 14 := by
  rcases h with ⟨_, _, _, b, hz, _, _, _, h0⟩ | ⟨_, _, _, b, hz, _, _, _, h0⟩
  · have := zdis_x n
    rw [hz] at this
    exact ⟨h0, this⟩
  · have := zlen_x n
    rw [hz] at this
    exact ⟨h0, by simp only at this; omega⟩
theorem sbits_le {s : Nat} (hs : s < 288) : (sbits flit s).length ≤ 9 := by
  rw [sbits_length, flit_get hs]
  split
  · decide
  · split
    · decide
    · split <;> decide

def fxAll (bits : List Bool) : List Bool := [true] ++ [true, false] ++ bits ++ sbits flit 256

theorem trovelaw7_fixed.c {s : Sl} {L : List Tk} {K : Ending → World → Prop} (h : St F0 w0 w ps) [Rdb F0 w0 s ps 3 (tks L)] (hL : L.length ≤ 100) (hb : ∀ t ∈ L, 0 ≤ t.1 ∧ t.1 < 256)
    (hk : ∀ s1 s2 w' bits out, Fx bits out → out.length ≤ 5000 → bits.length ≤ 5000 → s1.len = ((fxAll bits).length + 7) / 8 → s2.len = out.length → St F0 w0 w' (rdA 1 s1 (u8s (bytes (fxAll bits))) :: ownA 1 s2 (u8s out) :: ps) → K (.returned (.tuple ⟨[.slice s1.a s1.len s1.cap, .slice s2.a s2.len s2.cap, .bool true]⟩)) w')
    (hk2 : ∀ w', St F0 w0 w' ps → K (.returned (.tuple ⟨[.slice none 0 0, .slice none 0 0, .bool false]⟩)) w') : Calls Try.prog 120 ⟨[.slice s.a s.len s.cap]⟩ w K := by
  have hl := (h.rdb s).1
  rw [tri_length] at hl
  refine ret_k (trovelaw7_fixed.ok _ _ _ ?_)
  unfold trovelaw7_fixed trovelaw7_fixed.j1
  refine h.new fun wb w h => ?_
  have h : St F0 w0 w (rwA wb [] :: ps) := rwA_i (s := ⟨none, 0, 0⟩) (l := []) (h.nil 1).at1
  refine troveref2_Writer_Put.c h (by decide) fun w h => ⟨rfl, ?_⟩
  unfold trovelaw7_fixed.j2
  refine troveref2_Writer_Put.c h (by decide) fun w h => ⟨rfl, ?_⟩
  rw [show ([] : List Bool) ++ pb 1 1 = [true] by kernel_rfl, show pb 1 2 = [true, false] by kernel_rfl] at h
  unfold trovelaw7_fixed.j3 trovelaw7_fixed.j5
  refine loop2 (fun (a : Nat × List Bool × List Int) (o : Sl) (i' : Int) w' => i' = a.1 ∧ a.1 ≤ L.length ∧ Fx a.2.1 a.2.2 ∧ a.2.1.length ≤ 40 * a.1 ∧ a.2.2.length ≤ 4258 + a.1 ∧ St F0 w0 w' (rwA wb ([true] ++ [true, false] ++ a.2.1) :: ownA 1 o (u8s a.2.2) :: ps)) (fun a => L.length - a.1) (0, [], []) ⟨rfl, by simp, Fx.nil, by simp, by simp, (h.nil 1).at1⟩ ?_
  clear h
  rintro ⟨i, bits, out⟩ o i' wL I μ ⟨rfl, hi, hx, hbl, hol, h⟩ hin
  simp only at hi hx hbl hol h hin ⊢
  have holen := h.at1.len
  rw [ivs_length] at holen
  unfold trovelaw7_fixed.b1
  refine br_d (fun g => ?_) (fun g => ?_)
  · have hil : i < L.length := by omega
    have hbt := hb L[i] (List.getElem_mem hil)
    unfold trovelaw7_fixed.j6
    refine h.ltok (s := s) i rfl hil ?_
    generalize L[i] = t at hbt ⊢
    refine h.partN fun nb w h => ?_
    have next : ∀ (bits2 : List Bool) (out2 : List Int) (o2 : Sl) (w : World), Fx bits2 out2 → bits2.length ≤ 40 * i + 40 → out2.length ≤ 4258 + (i + 1) → St F0 w0 w (rwA wb ([true] ++ [true, false] ++ bits2) :: ownA 1 o2 (u8s out2) :: ps) →
        trovelaw7_fixed.j7 s (some ⟨wb, 0, none⟩) o2 (i : Int) (fun v w' => K (.returned v) w') (fun d' t5' t6' t7' w' => (d' = s ∧ t5' = some ⟨wb, 0, none⟩) ∧ I t6' t7' w' ∧ μ t6' t7' w' < μ o (i : Int) wL) w := by
      intro bits2 out2 o2 w hx2 h1 h2 h
      unfold trovelaw7_fixed.j7
      refine lt_as (wrap_i64 (by omega) (by omega)) ?_
      exact ⟨⟨rfl, rfl⟩, hin (i + 1, bits2, out2) _ _ _ ⟨by simp, by simp only; omega, hx2, by simp only; omega, by simp only; omega, h⟩ (by simp only; omega)⟩
    refine h.tb1 ?_
    refine br_b (fun g2 => ?_) (fun g2 => ?_)
    · refine h.tb0 ?_
      obtain ⟨b, hbb⟩ : ∃ b : Nat, t.1 = b := ⟨t.1.toNat, by omega⟩
      refine lt_as (show IntKind.i64.wrap t.1 = (b : Int) by rw [wrap_i64 (by omega) (by omega)]; exact hbb) ?_
      refine trovelaw7_put.c (s := b) h.at1 (by omega) (by simp only [List.length_append, List.length_cons, List.length_nil]; omega) fun w h => ⟨rfl, ?_⟩
      refine h.at1.tb0 ?_
      refine h.pushI (s := o) (by omega) fun o2 w h => ?_
      have hs9 := sbits_le (s := b) (by omega)
      refine next (bits ++ sbits flit b) (out ++ [t.1]) o2 w ?_ (by rw [List.length_append]; omega) (by rw [List.length_append, List.length_singleton]; omega) ?_
      · have := Fx.lit hx hbt.1 hbt.2
        rw [hbb, Int.toNat_natCast] at this
        rw [hbb]; exact this
      · rw [← List.append_assoc]
        exact h.sub
    · unfold trovelaw7_fixed.j8
      refine h.tb1 (br_d (fun _ => hk2 w h.drop.drop.drop) (fun g3 => ?_))
      refine h.tb1 (br_d (fun _ => hk2 w h.drop.drop.drop) (fun g4 => ?_))
      refine h.tb2 (br_d (fun _ => hk2 w h.drop.drop.drop) (fun g5 => ?_))
      refine h.tb2 (br_d (fun _ => hk2 w h.drop.drop.drop) (fun g6 => ?_))
      refine h.tb2 (br_d (fun _ => hk2 w h.drop.drop.drop) (fun g7 => ?_))
      refine br_d (fun _ => hk2 w h.drop.drop.drop) (fun g8 => ?_)
      refine h.tb1 ?_
      refine trovelaw7_sym.c (v := t.2.1) (dist := false) h (fun e => by cases e) (fun _ => by omega) fun n e x w hs h => ⟨n, e, x, rfl, ?_⟩
      have hsr := symP_len hs
      have hsx := symP_x hs
      unfold trovelaw7_fixed.j9
      obtain ⟨n, rfl⟩ : ∃ k : Nat, n = k := ⟨n.toNat, by omega⟩
      refine trovelaw7_put.c (s := n) h.at1 (by omega) (by simp only [List.length_append, List.length_cons, List.length_nil]; omega) fun w h => ⟨rfl, ?_⟩
      have hs9 := sbits_le (s := n) (by omega)
      refine troveref2_Writer_Put.c h (by simp only [List.length_append, List.length_cons, List.length_nil]; omega) fun w h => ⟨rfl, ?_⟩
      rw [pb_bits hsx.1 (by omega)] at h
      have hbx : (bitsOf e x.toNat).length ≤ 14 := by rw [bitsOf_length]; omega
      unfold trovelaw7_fixed.j10
      refine h.at1.tb2 ?_
      refine trovelaw7_sym.c (v := t.2.2) (dist := true) h (fun _ => by omega) (fun e => by cases e) fun n2 e2 x2 w hs2 h => ⟨n2, e2, x2, rfl, ?_⟩
      have hsx2 := symP_x hs2
      have hsr2 : 0 ≤ n2 ∧ n2 < 30 := by
        rcases hs2 with ⟨_, h1, h2, _⟩ | ⟨h1, _⟩
        · exact ⟨h1, h2⟩
        · cases h1
      obtain ⟨n2, rfl⟩ : ∃ k : Nat, n2 = k := ⟨n2.toNat, by omega⟩
      refine troveref2_Writer_Code.c h (by simp only [List.length_append, List.length_cons, List.length_nil]; omega) fun w h => ⟨rfl, ?_⟩
      have es : (pb (n2 : Int) 5).reverse = sbits fdist n2 := by
        rw [show (5 : Int) = ((5 : Nat) : Int) from rfl, pb_code (by decide)]
        unfold sbits
        rw [hcode_fdist (by omega), fdist_get (by omega)]
        rfl
      rw [es] at h
      have hs5 : (sbits fdist n2).length = 5 := by rw [sbits_length, fdist_get (by omega)]; rfl
      unfold trovelaw7_fixed.j11
      refine troveref2_Writer_Put.c h (by simp only [List.length_append, List.length_cons, List.length_nil]; omega) fun w h => ⟨rfl, ?_⟩
      rw [pb_bits hsx2.1 (by omega)] at h
      have hbx2 : (bitsOf e2 x2.toNat).length ≤ 14 := by rw [bitsOf_length]; omega
      have hfx := Fx.copy hx (n := t.2.1) (d := t.2.2) (by omega) (by omega) (by omega) (by omega) hs hs2
      rw [Int.toNat_natCast, Int.toNat_natCast] at hfx
      have hlen : (bits ++ (sbits flit n ++ (bitsOf e x.toNat ++ (sbits fdist n2 ++ bitsOf e2 x2.toNat)))).length ≤ 40 * i + 42 := by simp only [List.length_append]; omega
      have hlen : (bits ++ (sbits flit n ++ (bitsOf e x.toNat ++ (sbits fdist n2 ++ bitsOf e2 x2.toNat)))).length ≤ 40 * i + 40 := by
        have : x ≤ 6 := by
          rcases hs with ⟨h1, _⟩ | ⟨_, _, _, b, hz, _⟩
          · cases h1
          · have := zlen_x (n : Int)
            rw [hz] at this
            exact this
        simp only [List.length_append, bitsOf_length]
        omega
      have h : St F0 w0 w (rwA wb ([true] ++ [true, false] ++ (bits ++ (sbits flit n ++ (bitsOf e x.toNat ++ (sbits fdist n2 ++ bitsOf e2 x2.toNat))))) :: blkA nb (tkC t) :: ownA 1 o (u8s out) :: ps) := by
        simp only [List.append_assoc] at h ⊢
        exact h
      generalize bits ++ (sbits flit n ++ (bitsOf e x.toNat ++ (sbits fdist n2 ++ bitsOf e2 x2.toNat))) = bits2 at h hfx hlen
      unfold trovelaw7_fixed.j12
      obtain ⟨m, hm⟩ : ∃ k : Nat, t.2.1 = k := ⟨t.2.1.toNat, by omega⟩
      rw [hm, Int.toNat_natCast] at hfx
      refine loop2 (fun (a : Nat × List Int) (q : Sl) (k' : Int) w' => k' = a.1 ∧ a.1 ≤ m ∧ tkCopy t.2.2 (m - a.1) a.2 = tkCopy t.2.2 m out ∧ a.2.length = out.length + a.1 ∧ St F0 w0 w' (ownA 1 q (u8s a.2) :: rwA wb ([true] ++ [true, false] ++ bits2) :: blkA nb (tkC t) :: ps)) (fun a => m - a.1) (0, out) ⟨rfl, by simp, by simp, by simp, h.at2⟩ ?_
      clear h
      rintro ⟨k, o3⟩ q k' w3 I3 μ3 ⟨rfl, hkm, hcp, hlen3, h⟩ hin3
      simp only at hkm hcp hlen3 h hin3 ⊢
      have hql := h.len
      rw [ivs_length] at hql
      unfold trovelaw7_fixed.b2
      refine h.at2.tb1 ?_
      refine br_d (fun g9 => ?_) (fun g9 => ?_)
      · obtain ⟨f, hf⟩ : ∃ f, m - k = f + 1 := ⟨m - k - 1, by omega⟩
        rw [hf, tkCopy_succ] at hcp
        refine h.at2.tb2 ?_
        refine lt_as (show IntKind.i64.wrap (((q.len : Nat) : Int) - t.2.2) = ((o3.length - t.2.2.toNat : Nat) : Int) by rw [wrap_i64 (by omega) (by omega)]; omega) ?_
        refine h.lx (s := q) (o3.length - t.2.2.toNat) rfl (by omega) ?_
        refine h.pushI (s := q) (by omega) fun q2 w h => ?_
        refine lt_as (wrap_i64 (by omega) (by omega)) ?_
        refine ⟨⟨rfl, rfl, rfl, rfl⟩, hin3 (k + 1, o3 ++ [o3.getD (o3.length - t.2.2.toNat) 0]) _ _ _ ⟨by simp, by simp only; omega, ?_, by simp; omega, h⟩ (by simp only; omega)⟩
        simp only
        rw [show m - (k + 1) = f by omega]
        exact hcp
      · have : k = m := by omega
        subst this
        rw [Nat.sub_self, tkCopy] at hcp
        rw [← hcp] at hfx
        exact next bits2 o3 q w3 hfx hlen (by omega) h.sub
  · unfold trovelaw7_fixed.j4
    refine trovelaw7_put.c (s := 256) h (by decide) (by simp only [List.length_append, List.length_cons, List.length_nil]; omega) fun w h => ⟨rfl, ?_⟩
    refine troveref2_Writer_Done.c h (by have := sbits_le (s := 256) (by decide); simp only [List.length_append, List.length_cons, List.length_nil]; omega) fun s1 w h1 _ h => ⟨s1, rfl, ?_⟩
    exact hk s1 o w bits out hx (by omega) (by omega) h1 (by omega) (h.tail fun _ _ _ h => h.drop)

end
end Go.Proofs.Ytkajimndclhgaaa

