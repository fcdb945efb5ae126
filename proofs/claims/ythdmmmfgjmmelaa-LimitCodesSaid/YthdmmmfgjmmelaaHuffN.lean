/- Huffman codes as lists: checks, counts, the longest. Own work. -/
import Derived.Test.YthdmmmfgjmmelaaHuffM
import Derived.Test.YthdmmmfgjmmelaaLst
namespace Go.Proofs.Ythdmmmfgjmmelaa
set_option linter.unusedVariables false
set_option linter.unusedSimpArgs false

instance (l : List Int) : Decidable (okL l) := inferInstanceAs (Decidable (∀ x ∈ l, 0 ≤ x ∧ x ≤ 15))

/-- what Check tells -/
def hchk (l : List Int) : Bool × Int := if 288 < l.length then (false, 1) else if ¬ okL l then (false, 1) else if 32768 < kr l then (false, 2) else (decide (kr l = 32768), 0)
theorem hchk_ok {l : List Int} (h : (hchk l).2 = 0) : okL l ∧ kr l ≤ 32768 ∧ l.length ≤ 288 ∧ (hchk l).1 = decide (kr l = 32768) := by
  unfold hchk at h ⊢
  split at h
  · cases h
  · split at h
    · cases h
    · split at h
      · cases h
      · rename_i h1 h2 h3
        rw [if_neg h1, if_neg h2, if_neg h3]
        exact ⟨Decidable.not_not.1 h2, by omega, by omega, rfl⟩

theorem okL_snoc {l : List Int} {x : Int} (h : okL (l ++ [x])) : okL l ∧ 0 ≤ x ∧ x ≤ 15 := ⟨fun y hy => h y (by simp [hy]), h x (by simp)⟩
theorem okL_take {l : List Int} (h : okL l) (n : Nat) : okL (l.take n) := fun x hx => h x (List.mem_of_mem_take hx)

/-- the counts -/
def clL (l : List Int) : List Int := mapR 16 fun n => (hc l n : Int)
theorem clL_length (l : List Int) : (clL l).length = 16 := mapR_length _ _
theorem clL_getD (l : List Int) {n : Nat} (h : n < 16) : (clL l).getD n 0 = hc l n := getD_mapR h
theorem clL_nil : clL [] = List.replicate 16 0 := by decide
theorem clL_pos {l : List Int} {x : Int} (h0 : 0 < x) (h1 : x ≤ 15) : (clL l).set x.toNat ((hc l x.toNat : Int) + 1) = clL (l ++ [x]) := by
  unfold clL
  rw [set_mapR]
  refine mapR_congr fun i hi => ?_
  rw [hc_snoc]
  by_cases h : i = x.toNat
  · rw [if_pos h, if_pos (by omega), h]; omega
  · rw [if_neg h, if_neg (by omega)]; omega
theorem clL_no {l : List Int} {x : Int} (h0 : x ≤ 0) : clL (l ++ [x]) = clL l := by
  unfold clL
  refine mapR_congr fun i hi => ?_
  rw [hc_snoc, if_neg (by omega)]
  omega

theorem hc_le (l : List Int) (n : Nat) : hc l n ≤ l.length := by
  unfold hc
  split
  · omega
  · exact List.count_le_length

theorem kr_le (l : List Int) : kr l ≤ l.length * 16384 := by
  induction l using snoc_ind with
  | h0 => simp [kr]
  | h1 l x ih =>
    rw [kr_snoc, List.length_append, List.length_singleton]
    have : (if 0 < x then 2 ^ (15 - x.toNat) else 0) ≤ 16384 := by
      split
      · exact Nat.le_trans (Nat.pow_le_pow_right (by decide) (show 15 - x.toNat ≤ 14 by omega)) (by decide)
      · omega
    omega
theorem kr_take (l : List Int) (i : Nat) : kr (l.take i) ≤ kr l := by
  have : l = l.take i ++ l.drop i := (List.take_append_drop i l).symm
  conv => rhs; rw [this]
  unfold kr
  rw [List.map_append, List.sum_append]
  omega

/-! ### how many symbols -/
theorem hsyms_snoc {l : List Int} {x : Int} (h0 : 0 ≤ x) (n : Nat) : (hsyms (l ++ [x]) n).length = (hsyms l n).length + if 0 < x ∧ x ≤ n then 1 else 0 := by
  induction n with
  | zero => rw [hsyms, hsyms, if_neg (by omega)]; rfl
  | succ n ih =>
    rw [hsyms, hsyms, List.length_append, List.length_append, ih, hpos_snoc, List.length_append]
    by_cases h : x = ((n + 1 : Nat) : Int)
    · rw [if_neg (by omega), if_pos h, if_pos (by omega)]; simp; omega
    · rw [if_neg h]
      by_cases h2 : 0 < x ∧ x ≤ (n : Int)
      · rw [if_pos h2, if_pos (by omega)]; simp; omega
      · rw [if_neg h2, if_neg (by omega)]; simp

/-- lengths together, symbols, those of one bit -/
theorem sum_syms (l : List Int) (h : okL l) : (2 * (hsyms l 15).length : Int) - hc l 1 ≤ (l.filter (0 < ·)).sum ∧ hc l 1 ≤ (hsyms l 15).length ∧ (hc l 1 = (hsyms l 15).length → (l.filter (0 < ·)).sum = ((hsyms l 15).length : Int)) := by
  induction l using snoc_ind with
  | h0 => simp [hsyms, hpos, hc]
  | h1 l x ih =>
    obtain ⟨hl, hx0, hx1⟩ := okL_snoc h
    obtain ⟨i1, i2, i3⟩ := ih hl
    rw [hsyms_snoc hx0, hc_snoc, List.filter_append, List.sum_append]
    by_cases h0 : 0 < x
    · have e : ([x].filter (0 < ·)).sum = x := by simp [h0]
      rw [e, if_pos (show 0 < x ∧ x ≤ ((15 : Nat) : Int) by omega)]
      by_cases h1 : x = ((1 : Nat) : Int)
      · rw [if_pos ⟨by decide, h1⟩]
        refine ⟨by omega, by omega, fun e => ?_⟩
        have := i3 (by omega)
        omega
      · rw [if_neg (fun e => h1 e.2)]
        refine ⟨by omega, by omega, fun e => by omega⟩
    · have e : ([x].filter (0 < ·)).sum = 0 := by simp [h0]
      rw [e, if_neg (by omega), if_neg (by omega)]
      simpa using ⟨i1, i2, i3⟩

/-- may half a code be? -/
def hhalf (l : List Int) : Bool := decide ((hsyms l 15).length = 0 ∨ ((hsyms l 15).length = 1 ∧ hc l 1 = 1))
theorem hhalf_eq {l : List Int} (h : okL l) : hhalf l = decide ((l.filter (0 < ·)).sum ≤ 1) := by
  obtain ⟨h1, h2, h3⟩ := sum_syms l h
  unfold hhalf
  apply Bool.eq_iff_iff.2
  rw [decide_eq_true_eq, decide_eq_true_eq]
  constructor
  · rintro (h4 | ⟨h4, h5⟩)
    · have := h3 (by omega); omega
    · have := h3 (by omega); omega
  · intro h4; omega

/-- what New tells -/
def hnew (l : List Int) (half : Bool) : Int := if (hchk l).2 ≠ 0 then (hchk l).2 else if (hchk l).1 = false ∧ (half && hhalf l) = false then 2 else 0
theorem hnew_ok {l : List Int} {half : Bool} (h : hnew l half = 0) : (hchk l).2 = 0 := by
  unfold hnew at h
  split at h
  · rename_i h1; exact absurd h h1
  · rename_i h1; exact Decidable.not_not.1 h1

/-! ### the longest -/
theorem hsyms_last {l : List Int} : ∀ n, hlong l n = if hsyms l n = [] then 1 else (l.getD ((hsyms l n).getD ((hsyms l n).length - 1) 0) 0).toNat := by
  intro n
  induction n with
  | zero => rfl
  | succ n ih =>
    rw [hlong, hsyms]
    have hl := hpos_length l (n + 1)
    by_cases h : 0 < l.count ((n + 1 : Nat) : Int)
    · rw [if_pos h, if_neg (by intro e; have := congrArg List.length e; rw [List.length_append, hl, List.length_nil] at this; omega)]
      have e : (hsyms l n ++ hpos l (n + 1)).getD ((hsyms l n ++ hpos l (n + 1)).length - 1) 0 = (hpos l (n + 1)).getD ((hpos l (n + 1)).length - 1) 0 := by
        rw [List.length_append, List.getD_eq_getElem?_getD, List.getElem?_append_right (by omega), List.getD_eq_getElem?_getD]
        congr 2; omega
      rw [e]
      have hk : (hpos l (n + 1)).length - 1 < (hpos l (n + 1)).length := by omega
      have := hpos_get l (n + 1) (List.getElem?_eq_getElem hk)
      have e2 : (hpos l (n + 1)).getD ((hpos l (n + 1)).length - 1) 0 = (hpos l (n + 1))[(hpos l (n + 1)).length - 1] := by
        rw [List.getD_eq_getElem?_getD, List.getElem?_eq_getElem hk]; rfl
      rw [e2, this.2.1]
      omega
    · rw [if_neg h]
      have : hpos l (n + 1) = [] := List.eq_nil_of_length_eq_zero (by omega)
      rw [this, List.append_nil, ih]

theorem hsyms_mem {l : List Int} : ∀ n, ∀ i ∈ hsyms l n, i < l.length ∧ 0 < l.getD i 0 := by
  intro n
  induction n with
  | zero => intro i h; simp [hsyms] at h
  | succ n ih =>
    intro i h
    rw [hsyms] at h
    rcases List.mem_append.1 h with h | h
    · exact ih i h
    · obtain ⟨k, hk⟩ := List.getElem?_of_mem h
      obtain ⟨h1, h2, _⟩ := hpos_get l (n + 1) hk
      exact ⟨h1, by omega⟩

theorem hlong_le (l : List Int) : ∀ n, 1 ≤ n → 1 ≤ hlong l n ∧ hlong l n ≤ n := by
  intro n
  induction n with
  | zero => intro h; omega
  | succ n ih =>
    intro _
    rw [hlong]
    split
    · omega
    · cases n with
      | zero => rw [hlong]; omega
      | succ n => have := ih (by omega); omega

/-- some symbol has more than n bits, just below the longest -/
theorem hlong_some {l : List Int} (h : okL l) {n : Nat} (hn : 1 ≤ n) : (∃ x ∈ l, (n : Int) < x) ↔ n < hlong l 15 := by
  constructor
  · rintro ⟨x, hx, hnx⟩
    have hx2 := (h x hx).2
    have := long_ge (l := l) (m := x.toNat) (List.count_pos_iff.2 (by rw [show ((x.toNat : Nat) : Int) = x by omega]; exact hx)) 15 (by omega)
    omega
  · intro hlt
    have key : ∀ m, n < hlong l m → ∃ x ∈ l, (n : Int) < x := by
      intro m
      induction m with
      | zero => intro h; rw [hlong] at h; omega
      | succ m ih =>
        intro h
        rw [hlong] at h
        split at h
        · rename_i hc
          exact ⟨_, List.count_pos_iff.1 hc, by omega⟩
        · exact ih h
    exact key 15 hlt

/-- a code's symbol at a place of all symbols -/
theorem hsyms_at (l : List Int) : ∀ (m n k : Nat), 0 < n → n ≤ m → k < l.count (n : Int) → (hsyms l m)[(hsyms l (n - 1)).length + k]? = (hpos l n)[k]? := by
  intro m
  induction m with
  | zero => intro n k h1 h2; omega
  | succ m ih =>
    intro n k h1 h2 h3
    rw [hsyms]
    by_cases e : n = m + 1
    · subst e
      rw [Nat.add_sub_cancel, List.getElem?_append_right (by omega)]
      congr 1; omega
    · have := ih n k h1 (by omega) h3
      rw [List.getElem?_append_left, this]
      rw [← hpos_length] at h3
      rw [List.getElem?_eq_getElem h3] at this
      exact (List.getElem?_eq_some_iff.1 this).1

theorem hcodes_length (l : List Int) : (hcodes l).length = l.length := by simp [hcodes]
theorem hcodes_getD (l : List Int) {i : Nat} (h : i < l.length) : (hcodes l).getD i 0 = hcode l i := getD_mapR (f := fun i => (hcode l i : Int)) h
theorem hcode_eq {l : List Int} {i m : Nat} (hm : l.getD i 0 = m) (h0 : 0 < m) : hcode l i = hf l m + hc (l.take i) m := by
  unfold hcode hc
  rw [hm, if_pos (by omega), if_neg (by omega)]
  simp
theorem hcode_no {l : List Int} {i : Nat} (h : l.getD i 0 ≤ 0) : hcode l i = 0 := by unfold hcode; rw [if_neg (by omega)]

theorem hf_mono_le (l : List Int) (h : okL l) (hk : kr l ≤ 32768) {n : Nat} (hn : n ≤ 15) : hf l n + hc l n ≤ 32768 := by
  have := hf_le l h (by rw [show (2 : Nat) ^ 15 = 32768 by decide]; exact hk) hn
  exact Nat.le_trans this (Nat.le_trans (Nat.pow_le_pow_right (by decide) hn) (by decide))

theorem hcode_size {l : List Int} (h : okL l) (hk : kr l ≤ 32768) {i m : Nat} (hi : i < l.length) (hm : l.getD i 0 = m) (h0 : 0 < m) : hcode l i < 2 ^ m := by
  have h15 : m ≤ 15 := by have := (h _ (mem_getD hi)).2; omega
  have := (hcode_lt hi hm h0).2
  have := hf_le l h (by rw [show (2 : Nat) ^ 15 = 32768 by decide]; exact hk) h15
  omega

/-- two symbols of one length and one code are one -/
theorem hcode_inj {l : List Int} {i k m : Nat} (hi : i < l.length) (hk : k < l.length) (h1 : l.getD i 0 = m) (h2 : l.getD k 0 = m) (h0 : 0 < m) (h : hcode l i = hcode l k) : i = k := by
  rw [hcode_eq h1 h0, hcode_eq h2 h0] at h
  unfold hc at h
  rw [if_neg (by omega), if_neg (by omega)] at h
  rcases Nat.lt_trichotomy i k with g | g | g
  · have := rank_mono g hk h1; omega
  · exact g
  · have := rank_mono g hi h2; omega

end Go.Proofs.Ythdmmmfgjmmelaa
