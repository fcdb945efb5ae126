/- Huffman codes: the statements on words, on symbols there and back. Own work. -/
import Derived.Test.YthdmmmfgjmmelaaHuffD
namespace Go.Proofs.Ythdmmmfgjmmelaa
open Go Go.Proofs
set_option linter.unusedVariables false
set_option linter.unusedSimpArgs false
attribute [local irreducible] apK cpK mkK br

theorem bitsOf_no (k : Nat) : bitsOf 0 k = List.replicate k false := by
  unfold bitsOf
  apply List.ext_getElem
  · simp
  · intro i h1 h2
    simp [bt]

/-- the bits of a row's bytes: the row, and noughts behind -/
theorem bitsOf_ext (l : List Bool) {n : Nat} (h : l.length ≤ n) : bitsOf (val l : Nat) n = l ++ List.replicate (n - l.length) false := by
  have e : n = l.length + (n - l.length) := by omega
  conv => lhs; rw [e]
  rw [bitsOf_add, bitsOf_val]
  congr 1
  have h2 := val_lt l
  have : ((val l : Nat) : Int) / 2 ^ l.length = 0 := by
    have e2 : ((val l : Nat) : Int) / 2 ^ l.length = ((val l / 2 ^ l.length : Nat) : Int) := by simp
    rw [e2, Nat.div_eq_of_lt h2]; rfl
  rw [this, bitsOf_no]

theorem drop_take_app {a b c : List Bool} {p m : Nat} (hp : a.length = p) (hm : b.length = m) : ((a ++ (b ++ c)).drop p).take m = b := by
  subst hp hm
  rw [List.drop_left' rfl, List.take_left' rfl]

/-! ### a word of one symbol -/

theorem one_code (s : Nat) (hs : s ≤ 280) : okL (List.replicate s 0 ++ [1]) ∧ hchk (List.replicate s 0 ++ [1]) = (false, 0) ∧ hnew (List.replicate s 0 ++ [1]) true = 0 ∧ hcode (List.replicate s 0 ++ [1]) s = 0 ∧ hlong (List.replicate s 0 ++ [1]) 15 = 1 ∧ (List.replicate s 0 ++ [1] : List Int).getD s 0 = 1 ∧ hf (List.replicate s 0 ++ [1]) 1 + hc (List.replicate s 0 ++ [1]) 1 = 1 := by
  have ok0 : okL (List.replicate s 0) := fun x hx => by rw [List.eq_of_mem_replicate hx]; decide
  have ok : okL (List.replicate s 0 ++ [1]) := fun x hx => by
    rcases List.mem_append.1 hx with hx | hx
    · exact ok0 x hx
    · rw [List.mem_singleton.1 hx]; decide
  have kr0 : ∀ s, kr (List.replicate s 0) = 0 := by
    intro s
    induction s with
    | zero => rfl
    | succ s ih => rw [List.replicate_succ', kr_snoc, ih]; rfl
  have k1 : kr (List.replicate s 0 ++ [1]) = 16384 := by rw [kr_snoc, kr0]; rfl
  have c1 : hchk (List.replicate s 0 ++ [1]) = (false, 0) := by
    unfold hchk
    rw [if_neg (by simp; omega), if_neg (fun e => e ok), k1]
    rfl
  have gs : (List.replicate s 0 ++ [1] : List Int).getD s 0 = 1 := by simp [List.getD]
  have hn : hnew (List.replicate s 0 ++ [1]) true = 0 := by
    unfold hnew
    rw [c1, hhalf_eq ok, List.filter_append, List.sum_append]
    have : (List.replicate s (0 : Int)).filter (0 < ·) = [] := List.filter_eq_nil_iff.2 fun a ha => by rw [List.eq_of_mem_replicate ha]; decide
    rw [this]
    rfl
  have cnt0 : (List.replicate s (0 : Int)).count ((1 : Nat) : Int) = 0 := List.count_eq_zero.2 fun h => by have := List.eq_of_mem_replicate h; omega
  have hcd : hcode (List.replicate s 0 ++ [1]) s = 0 := by
    rw [hcode_eq (m := 1) gs (by decide)]
    have : (List.replicate s (0 : Int) ++ [1]).take s = List.replicate s 0 := List.take_left' (by simp)
    rw [this]
    unfold hc
    rw [if_neg (by decide), cnt0]
    simp [hf, hc]
  have hl := hlong_le (List.replicate s 0 ++ [1]) 15 (by decide)
  have h1 : ¬ 1 < hlong (List.replicate s 0 ++ [1]) 15 := by
    intro h
    obtain ⟨x, hx, hx2⟩ := (hlong_some ok (n := 1) (by decide)).2 h
    rcases List.mem_append.1 hx with hx | hx
    · rw [List.eq_of_mem_replicate hx] at hx2; exact absurd hx2 (by decide)
    · rw [List.mem_singleton.1 hx] at hx2; exact absurd hx2 (by decide)
  have hfc : hf (List.replicate s 0 ++ [1]) 1 + hc (List.replicate s 0 ++ [1]) 1 = 1 := by
    have : hc (List.replicate s 0 ++ [1]) 1 = 1 := by
      rw [hc_snoc]
      unfold hc
      rw [if_neg (by decide), cnt0]
      rfl
    rw [this]
    simp [hf, hc]
  exact ⟨ok, c1, hn, hcd, by omega, gs, hfc⟩

/-! ### symbols there and back -/

def okSym (ls : List Int) (s : Int) : Bool := hputs ls s
def putL2 (ls ss : List Int) : List Int := ss.filter (hputs ls)
def wordL (ls qs : List Int) : List Bool := qs.flatMap (hput ls)

theorem hput_no {ls : List Int} {s : Int} (h : hputs ls s = false) : hput ls s = [] := by
  unfold hputs at h
  unfold hput
  rw [if_neg (by simpa using h)]

theorem costN_set {ls cs : List Int} {j : Nat} (hj : j < cs.length) : ∀ n, costN ls (cs.set j (cs.getD j 0 + 1)) n = costN ls cs n + if j < n then ls.getD j 0 else 0 := by
  intro n
  induction n with
  | zero => simp [costN]
  | succ n ih =>
    rw [costN, costN, ih, getD_setL hj]
    by_cases h : j = n
    · subst h
      rw [if_pos rfl, if_neg (by omega), if_pos (by omega), Int.add_mul]
      omega
    · rw [if_neg h]
      by_cases h2 : j < n
      · rw [if_pos h2, if_pos (by omega)]; omega
      · rw [if_neg h2, if_neg (by omega)]; omega

end Go.Proofs.Ythdmmmfgjmmelaa
