/- SHA-1 in the program's own words, and what the small functions answer. Own work. -/
import Derived.Test.YtkajimndclhgaaaBitF
import Derived.Test.YtkajimndclhgaaaGSha
import Derived.Test.YtkajimndclhgaaaGShaR
namespace Go.Proofs.Ytkajimndclhgaaa
open Go Go.Proofs
set_option linter.unusedVariables false
set_option linter.unusedSimpArgs false
attribute [local irreducible] apK cpK mkK

/-! ### 1. the model -/

def lf (x n : Int) : Int := orV .u32 (shlV .u32 x n) (shrV .u32 x (32 - n))
def no32 (b : Int) : Int := xorV .u32 4294967295 b

def mixF (t : Nat) (b c d : Int) : Int × Int :=
  if t < 20 then (orV .u32 (andV .u32 b c) (andV .u32 (no32 b) d), 1518500249)
  else if t < 40 then (xorV .u32 (xorV .u32 b c) d, 1859775393)
  else if t < 60 then (orV .u32 (orV .u32 (andV .u32 b c) (andV .u32 b d)) (andV .u32 c d), 2400959708)
  else (xorV .u32 (xorV .u32 b c) d, 3395469782)

structure W5 where
  a : Int
  b : Int
  c : Int
  d : Int
  e : Int

def stepF (t : Nat) (x : Int) (s : W5) : W5 :=
  ⟨IntKind.u32.wrap (IntKind.u32.wrap (IntKind.u32.wrap (IntKind.u32.wrap (lf s.a 5 + (mixF t s.b s.c s.d).1) + s.e) + (mixF t s.b s.c s.d).2) + x), s.a, lf s.b 30, s.c, s.d⟩

/-- n rounds over the words l -/
def rounds (l : List Int) : Nat → W5 → W5
  | 0, s => s
  | n + 1, s => stepF n (l.getD n 0) (rounds l n s)

def nextW (l : List Int) : Int := lf (xorV .u32 (xorV .u32 (xorV .u32 (l.getD (l.length - 3) 0) (l.getD (l.length - 8) 0)) (l.getD (l.length - 14) 0)) (l.getD (l.length - 16) 0)) 1

def growW : Nat → List Int → List Int
  | 0, l => l
  | n + 1, l => growW n (l ++ [nextW l])

theorem growW_succ (n : Nat) : ∀ l, growW (n + 1) l = growW n l ++ [nextW (growW n l)] := by
  induction n with
  | zero => intro l; rfl
  | succ n ih => intro l; rw [growW, ih]; rfl

theorem growW_length (n : Nat) (l : List Int) : (growW n l).length = l.length + n := by
  induction n generalizing l with
  | zero => rfl
  | succ n ih => rw [growW, ih]; simp; omega

/-- bytes as a number, the highest first -/
def be (l : List Int) : Int := l.foldl (fun a x => a * 256 + x) 0
theorem be_snoc (l : List Int) (x : Int) : be (l ++ [x]) = be l * 256 + x := by simp [be]

def base16 (p : List Int) : List Int := (List.range 16).map fun t => be ((p.drop (4 * t)).take 4)

def addW (s x : W5) : W5 := ⟨IntKind.u32.wrap (s.a + x.a), IntKind.u32.wrap (s.b + x.b), IntKind.u32.wrap (s.c + x.c), IntKind.u32.wrap (s.d + x.d), IntKind.u32.wrap (s.e + x.e)⟩

/-- a block is eaten -/
def blkF (s : W5) (p : List Int) : W5 := addW s (rounds (growW 64 (base16 p)) 80 s)

def W5.l (s : W5) : List Int := [s.a, s.b, s.c, s.d, s.e]
abbrev u32s (l : List Int) : List Value := l.map (Value.int .u32)
theorem u32s_length (l : List Int) : (u32s l).length = l.length := by simp [u32s]
theorem u32s_get {l : List Int} {i : Nat} (h : i < l.length) : (u32s l)[i]? = some (.int .u32 (l.getD i 0)) := by
  simp [u32s, h, List.getD, List.getElem?_eq_getElem h]
theorem u32s_set (l : List Int) (i : Nat) (v : Int) : (u32s l).set i (.int .u32 v) = u32s (l.set i v) := by
  unfold u32s; rw [List.map_set]
theorem u8s_get {l : List Int} {i : Nat} (h : i < l.length) : (u8s l)[i]? = some (.int .u8 (l.getD i 0)) := by
  simp [u8s, h, List.getD, List.getElem?_eq_getElem h]

def init5 : W5 := ⟨1732584193, 4023233417, 2562383102, 271733878, 3285377520⟩

/-- the words behind n whole blocks -/
def hs (xs : List Int) : Nat → W5
  | 0 => init5
  | n + 1 => blkF (hs xs n) ((xs.drop (64 * n)).take 64)

theorem hs_front (xs ys : List Int) : ∀ n, 64 * n ≤ xs.length → hs (xs ++ ys) n = hs xs n
  | 0, _ => rfl
  | n + 1, h => by
    rw [hs, hs, hs_front xs ys n (by omega)]
    congr 1
    rw [List.drop_append_of_le_length (by omega), List.take_append_of_le_length (by rw [List.length_drop]; omega)]

/-- a number as eight bytes, the highest first -/
def be8 (n : Int) : List Int := (List.range 8).map fun i => n / 2 ^ (8 * (7 - i)) % 256

def zeros (n : Nat) : List Int := List.replicate ((119 - n % 64) % 64) 0
/-- all bytes of the message and its end -/
def padded (xs : List Int) : List Int := xs ++ [128] ++ zeros xs.length ++ be8 (8 * xs.length)

theorem padded_length (xs : List Int) : (padded xs).length % 64 = 0 := by
  simp [padded, zeros, be8]; omega

def sumW (xs : List Int) : W5 := hs (padded xs) ((padded xs).length / 64)
def word4 (x : Int) : List Int := [x / 2 ^ 24 % 256, x / 2 ^ 16 % 256, x / 2 ^ 8 % 256, x % 256]
def sumB (xs : List Int) : List Int := (sumW xs).l.flatMap word4

/-! ### 2. the small functions -/

section
variable {F0 : List Nat} {w0 w : World} {ps : List As}

theorem ixA_b {b o n sz : Nat} {i : Int} {K : Addr → Prop} (h0 : 0 ≤ i) (h1 : i < (n : Int)) (hk : K ⟨b, o + i.toNat * sz, none⟩) : ixA ⟨b, o, none⟩ n i sz K := by
  unfold ixA
  rw [add_mk]
  exact ⟨⟨h0, h1⟩, hk⟩

theorem sha_left.c {x n : Int} {K : Ending → World → Prop} (hn : 0 ≤ n ∧ n ≤ 32) (hk : ∀ w', Mod [] w w' → K (.returned (.int .u32 (lf x n))) w') : Calls Try.prog 154 ⟨[.int .u32 x, .int .i64 n]⟩ w K := by
  refine ret_k (sha_left.ok _ _ _ _ ?_)
  unfold sha_left
  refine lt_i ?_
  refine ⟨hn.1, lt_i ?_⟩
  refine lt_as (wrap_i64 (by omega) (by omega)) ?_
  refine ⟨by omega, lt_i (lt_i ?_)⟩
  exact hk _ (Mod.drew w)

theorem troveref3_left.c {x n : Int} {K : Ending → World → Prop} (hn : 0 ≤ n ∧ n ≤ 32) (hk : K (.returned (.int .u32 (lf x n))) w) : Calls Try.prog 153 ⟨[.int .u32 x, .int .u64 n]⟩ w K := by
  refine ret_k (troveref3_left.ok _ _ _ _ ?_)
  unfold troveref3_left
  refine ⟨hn.1, lt_i ?_⟩
  refine lt_as (show IntKind.u64.wrap (32 - n) = 32 - n by rw [wrap_u64]; omega) ?_
  refine ⟨by omega, lt_i (lt_i ?_)⟩
  exact hk

theorem sha_mix.c {t : Nat} {b c d : Int} {K : Ending → World → Prop} (ht : t < 80) (hk : K (.returned (.tuple ⟨[.int .u32 (mixF t b c d).1, .int .u32 (mixF t b c d).2]⟩)) w) : Calls Try.prog 155 ⟨[.int .i64 t, .int .u32 b, .int .u32 c, .int .u32 d]⟩ w K := by
  refine ret_k (sha_mix.ok _ _ _ _ _ _ ?_)
  unfold sha_mix
  refine ⟨by decide, ?_⟩
  rw [tdiv_nn (by omega)]
  refine lt_as (wrap_i64 (by omega) (by omega)) ?_
  unfold mixF at hk
  refine br_b (fun h1 => ?_) (fun h1 => ?_)
  · have h1 : (t : Int) / 20 = 0 := by simpa using h1
    rw [if_pos (by omega)] at hk
    exact lt_i (lt_i (lt_i (lt_i hk)))
  have h1 : ¬ (t : Int) / 20 = 0 := by simpa using h1
  rw [if_neg (by omega)] at hk
  refine br_b (fun h2 => ?_) (fun h2 => ?_)
  · have h2 : (t : Int) / 20 = 1 := by simpa using h2
    rw [if_pos (by omega)] at hk
    exact lt_i (lt_i hk)
  have h2 : ¬ (t : Int) / 20 = 1 := by simpa using h2
  rw [if_neg (by omega)] at hk
  refine br_b (fun h3 => ?_) (fun h3 => ?_)
  · have h3 : (t : Int) / 20 = 2 := by simpa using h3
    rw [if_pos (by omega)] at hk
    exact lt_i (lt_i (lt_i (lt_i (lt_i hk))))
  have h3 : ¬ (t : Int) / 20 = 2 := by simpa using h3
  rw [if_neg (by omega)] at hk
  exact lt_i (lt_i hk)

end

end Go.Proofs.Ytkajimndclhgaaa
