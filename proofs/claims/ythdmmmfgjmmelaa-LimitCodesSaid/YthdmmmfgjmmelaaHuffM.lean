/- Huffman codes as lists: codes, places, reading. Own work. -/
namespace Go.Proofs.Ythdmmmfgjmmelaa
set_option linter.unusedVariables false
set_option linter.unusedSimpArgs false
/-! ### 1. lengths: how many of each, what they take -/
/-- how many symbols have n bits -/
def hc (l : List Int) (n : Nat) : Nat := if n = 0 then 0 else l.count (n : Int)
/-- the first code of n bits -/
def hf (l : List Int) : Nat → Nat
  | 0 => 0
  | n + 1 => 2 * (hf l n + hc l n)
/-- the room that the symbols take -/
def kr (l : List Int) : Nat := (l.map fun x => if 0 < x then 2 ^ (15 - x.toNat) else 0).sum
def okL (l : List Int) : Prop := ∀ x ∈ l, 0 ≤ x ∧ x ≤ 15
/-- the room of those up to n bits -/
def krN (l : List Int) : Nat → Nat
  | 0 => 0
  | n + 1 => krN l n + hc l (n + 1) * 2 ^ (15 - (n + 1))

theorem hc_snoc (l : List Int) (x : Int) (n : Nat) : hc (l ++ [x]) n = hc l n + if 0 < n ∧ x = n then 1 else 0 := by
  unfold hc
  by_cases h : n = 0
  · simp [h]
  · rw [if_neg h, if_neg h, List.count_append, List.count_singleton]
    by_cases h2 : x = n
    · simp [h2]; omega
    · simp [h2]

theorem kr_snoc (l : List Int) (x : Int) : kr (l ++ [x]) = kr l + if 0 < x then 2 ^ (15 - x.toNat) else 0 := by simp [kr]

theorem krN_snoc (l : List Int) (x : Int) (n : Nat) (h0 : 0 ≤ x) : krN (l ++ [x]) n = krN l n + if 0 < x ∧ x ≤ n then 2 ^ (15 - x.toNat) else 0 := by
  induction n with
  | zero => rw [krN, krN, if_neg (by omega)]
  | succ n ih =>
    rw [krN, krN, ih, hc_snoc, Nat.add_mul]
    by_cases h : x = ((n + 1 : Nat) : Int)
    · rw [if_neg (by omega), if_pos ⟨by omega, h⟩, if_pos (by omega), show x.toNat = n + 1 by omega]; omega
    · rw [if_neg (show ¬ (0 < n + 1 ∧ x = ((n + 1 : Nat) : Int)) from fun e => h e.2)]
      by_cases h2 : 0 < x ∧ x ≤ (n : Int)
      · rw [if_pos h2, if_pos (by omega)]; omega
      · rw [if_neg h2, if_neg (by omega)]; omega

theorem snoc_ind {P : List Int → Prop} (h0 : P []) (h1 : ∀ l x, P l → P (l ++ [x])) (l : List Int) : P l := by
  have key : ∀ l : List Int, P l.reverse := by
    intro l
    induction l with
    | nil => exact h0
    | cons x l ih => rw [List.reverse_cons]; exact h1 _ _ ih
  have := key l.reverse
  rwa [List.reverse_reverse] at this

theorem kr_eq (l : List Int) (h : okL l) : kr l = krN l 15 := by
  induction l using snoc_ind with
  | h0 => simp [kr, krN, hc]
  | h1 l x ih =>
    have hx := h x (by simp)
    rw [kr_snoc, krN_snoc _ _ _ hx.1, ih (fun y hy => h y (by simp [hy]))]
    congr 1
    by_cases h2 : 0 < x
    · rw [if_pos h2, if_pos ⟨h2, by omega⟩]
    · rw [if_neg h2, if_neg (by omega)]

theorem krN_mono (l : List Int) : ∀ (m n : Nat), n ≤ m → krN l n ≤ krN l m := by
  intro m
  induction m with
  | zero => intro n h; rw [show n = 0 by omega]; omega
  | succ m ih =>
    intro n h
    rcases Nat.lt_or_ge m n with h1 | h1
    · rw [show n = m + 1 by omega]; omega
    · have := ih n h1; rw [krN]; omega

theorem hf_kr (l : List Int) : ∀ n, n ≤ 15 → (hf l n + hc l n) * 2 ^ (15 - n) = krN l n := by
  intro n
  induction n with
  | zero => intro _; simp [hf, hc, krN]
  | succ n ih =>
    intro h
    rw [krN, ← ih (by omega), hf, Nat.add_mul, show 15 - n = (15 - (n + 1)) + 1 by omega, Nat.pow_succ]
    congr 1
    rw [Nat.mul_comm 2, Nat.mul_assoc, Nat.mul_comm 2]

/-- the codes of n bits fit into n bits -/
theorem hf_le (l : List Int) (h : okL l) (hk : kr l ≤ 2 ^ 15) {n : Nat} (hn : n ≤ 15) : hf l n + hc l n ≤ 2 ^ n := by
  have h1 := hf_kr l n hn
  have h2 := krN_mono l 15 n hn
  rw [kr_eq l h] at hk
  have h3 : (hf l n + hc l n) * 2 ^ (15 - n) ≤ 2 ^ n * 2 ^ (15 - n) := by
    rw [h1, ← Nat.pow_add, show n + (15 - n) = 15 by omega]; omega
  exact Nat.le_of_mul_le_mul_right h3 (Nat.pow_pos (by decide))

/-- the first code of m bits is behind all of fewer bits -/
theorem hf_step (l : List Int) (n : Nat) : ∀ d, (hf l n + hc l n) * 2 ^ (d + 1) ≤ hf l (n + d + 1) := by
  intro d
  induction d with
  | zero => rw [hf]; omega
  | succ d ih =>
    rw [show n + (d + 1) + 1 = (n + d + 1) + 1 by omega, hf, Nat.pow_succ, ← Nat.mul_assoc]
    omega

/-! ### 2. codes -/
/-- the code of the symbol at place i -/
def hcode (l : List Int) (i : Nat) : Nat := if 0 < l.getD i 0 then hf l (l.getD i 0).toNat + (l.take i).count (l.getD i 0) else 0
def hcodes (l : List Int) : List Int := (List.range l.length).map fun i => (hcode l i : Int)
/-- the symbols of n bits -/
def hpos (l : List Int) (n : Nat) : List Nat := (List.range l.length).filter fun i => l.getD i 0 == (n : Int)
/-- all symbols up to n bits, in order of their codes -/
def hsyms (l : List Int) : Nat → List Nat
  | 0 => []
  | n + 1 => hsyms l n ++ hpos l (n + 1)

theorem getD_snoc (l : List Int) (x : Int) : (l ++ [x]).getD l.length 0 = x := by simp [List.getD]
theorem getD_front {l m : List Int} {i : Nat} (h : i < l.length) : (l ++ m).getD i 0 = l.getD i 0 := by simp [List.getD, List.getElem?_append_left h]

theorem hpos_snoc (l : List Int) (x : Int) (n : Nat) : hpos (l ++ [x]) n = hpos l n ++ if x = n then [l.length] else [] := by
  unfold hpos
  rw [List.length_append, List.length_singleton, List.range_succ, List.filter_append]
  congr 1
  · apply List.filter_congr
    intro i hi
    rw [getD_front (List.mem_range.1 hi)]
  · rw [List.filter_cons, getD_snoc, List.filter_nil]
    by_cases h : x = n <;> simp [h]

theorem hpos_length (l : List Int) (n : Nat) : (hpos l n).length = l.count (n : Int) := by
  induction l using snoc_ind with
  | h0 => rfl
  | h1 l x ih =>
    rw [hpos_snoc, List.length_append, ih, List.count_append, List.count_singleton]
    by_cases h : x = n <;> simp [h]

/-- the k-th of n bits -/
theorem hpos_get (l : List Int) (n : Nat) : ∀ {k i : Nat}, (hpos l n)[k]? = some i → i < l.length ∧ l.getD i 0 = n ∧ (l.take i).count (n : Int) = k := by
  induction l using snoc_ind with
  | h0 => intro k i h; simp [hpos] at h
  | h1 l x ih =>
    intro k i h
    rw [hpos_snoc] at h
    rcases Nat.lt_or_ge k (hpos l n).length with hk | hk
    · rw [List.getElem?_append_left hk] at h
      obtain ⟨h1, h2, h3⟩ := ih h
      refine ⟨by simp; omega, by rw [getD_front h1]; exact h2, ?_⟩
      rw [List.take_append_of_le_length (by omega)]
      exact h3
    · rw [List.getElem?_append_right hk] at h
      by_cases hx : x = n
      · rw [if_pos hx] at h
        have hk2 : k - (hpos l n).length = 0 := by
          rcases Nat.lt_or_ge (k - (hpos l n).length) 1 with h1 | h1
          · omega
          · rw [List.getElem?_eq_none (by simpa using h1)] at h; cases h
        rw [hk2] at h
        have hi : l.length = i := by simpa using h
        subst hi
        refine ⟨by simp, by rw [getD_snoc]; exact hx, ?_⟩
        rw [List.take_left' rfl, ← hpos_length]
        omega
      · rw [if_neg hx] at h; simp at h

theorem hpos_code {l : List Int} {n k i : Nat} (hn : 0 < n) (h : (hpos l n)[k]? = some i) : hcode l i = hf l n + k := by
  obtain ⟨h1, h2, h3⟩ := hpos_get l n h
  unfold hcode
  rw [h2, if_pos (by omega), h3]
  simp

/-- a symbol of n bits stands among those of n bits, at its code's place -/
theorem hpos_at (l : List Int) : ∀ {i : Nat}, i < l.length → ∀ n : Nat, l.getD i 0 = n → (hpos l n)[(l.take i).count (n : Int)]? = some i := by
  induction l using snoc_ind with
  | h0 => intro i h; simp at h
  | h1 l x ih =>
    intro i h n hn
    rw [hpos_snoc]
    rcases Nat.lt_or_ge i l.length with hi | hi
    · rw [getD_front hi] at hn
      have h1 := ih hi n hn
      rw [List.take_append_of_le_length (by omega), List.getElem?_append_left]
      · exact h1
      · rcases Nat.lt_or_ge ((l.take i).count (n : Int)) (hpos l n).length with h2 | h2
        · exact h2
        · rw [List.getElem?_eq_none h2] at h1; cases h1
    · have : i = l.length := by simp at h; omega
      subst this
      rw [getD_snoc] at hn
      rw [List.take_left' rfl, ← hpos_length, List.getElem?_append_right (Nat.le_refl _), Nat.sub_self, if_pos hn]
      rfl

theorem rank_lt {l : List Int} {i n : Nat} (hi : i < l.length) (hn : l.getD i 0 = n) : (l.take i).count (n : Int) < l.count (n : Int) := by
  have h := hpos_at l hi n hn
  rw [← hpos_length l]
  rcases Nat.lt_or_ge ((l.take i).count (n : Int)) (hpos l n).length with h2 | h2
  · exact h2
  · rw [List.getElem?_eq_none h2] at h; cases h

theorem rank_mono {l : List Int} {i k n : Nat} (hik : i < k) (hk : k < l.length) (hi : l.getD i 0 = n) : (l.take i).count (n : Int) < (l.take k).count (n : Int) := by
  have h1 : l.take k = (l.take k).take i ++ (l.take k).drop i := (List.take_append_drop i (l.take k)).symm
  have h2 : (l.take k).take i = l.take i := by rw [List.take_take, Nat.min_eq_left (by omega)]
  rw [h1, h2, List.count_append]
  have h3 : (n : Int) ∈ (l.take k).drop i := by
    rw [List.mem_iff_getElem?]
    refine ⟨0, ?_⟩
    rw [List.getElem?_drop, List.getElem?_take, if_pos (by omega), Nat.add_zero, List.getElem?_eq_getElem (by omega)]
    rw [← hi]
    simp [List.getD, List.getElem?_eq_getElem (show i < l.length by omega)]
  have := List.count_pos_iff.2 h3
  omega

/-- the bits of a longer code go on behind all codes of n bits -/
theorem hcode_ge {l : List Int} {i m n : Nat} (hm : l.getD i 0 = m) (hn : n < m) : (hf l n + hc l n) * 2 ^ (m - n) ≤ hcode l i := by
  unfold hcode
  rw [hm, if_pos (by omega)]
  have := hf_step l n (m - n - 1)
  rw [show m - n - 1 + 1 = m - n by omega, show n + (m - n - 1) + 1 = m by omega] at this
  simp only [Int.toNat_natCast]
  omega

theorem hcode_lt {l : List Int} {i m : Nat} (hi : i < l.length) (hm : l.getD i 0 = m) (h0 : 0 < m) : hf l m ≤ hcode l i ∧ hcode l i < hf l m + hc l m := by
  unfold hcode hc
  rw [hm, if_pos (by omega), if_neg (by omega)]
  have := rank_lt hi hm
  simp only [Int.toNat_natCast]
  omega

/-! ### 3. reading -/
/-- the longest -/
def hlong (l : List Int) : Nat → Nat
  | 0 => 1
  | n + 1 => if 0 < l.count ((n + 1 : Nat) : Int) then n + 1 else hlong l n

/-- v of n - 1 bits was read, from the place p on; the bits b: the symbol, the fault, the place -/
def hdec (l : List Int) (b : List Bool) : Nat → Nat → Nat → Nat → Int × Int × Nat
  | 0, _, _, p => (0, 2, p)
  | f + 1, n, v, p =>
    match b[p]? with
    | none => (0, 3, p)
    | some x =>
      if 2 * v + x.toNat < hf l n + hc l n then (((hpos l n).getD (2 * v + x.toNat - hf l n) 0 : Nat), 0, p + 1)
      else hdec l b f (n + 1) (2 * v + x.toNat) (p + 1)

/-- a symbol is read -/
def hnext (l : List Int) (b : List Bool) (p : Nat) : Int × Int × Nat := hdec l b (hlong l 15) 1 0 p

/-- the n bits of a code, the highest first -/
def cbits (c n : Nat) : List Bool := (List.range n).map fun i => c.testBit (n - 1 - i)
theorem cbits_length (c n : Nat) : (cbits c n).length = n := by simp [cbits]

theorem long_ge {l : List Int} {m : Nat} (h : 0 < l.count (m : Int)) : ∀ n, m ≤ n → m ≤ hlong l n := by
  intro n
  induction n with
  | zero => intro h; rw [hlong]; omega
  | succ n ih =>
    intro h1
    rw [hlong]
    split
    · omega
    · rename_i h2
      rcases Nat.lt_or_ge n m with h3 | h3
      · have : m = n + 1 := by omega
        subst this; exact absurd h h2
      · exact ih h3

theorem div_bit (c k : Nat) : c / 2 ^ k = 2 * (c / 2 ^ (k + 1)) + (c.testBit k).toNat := by
  rw [Nat.pow_succ, ← Nat.div_div_eq_div_mul, Nat.testBit_eq_decide_div_mod_eq]
  by_cases h : c / 2 ^ k % 2 = 1
  · simp [h]; omega
  · simp [h]; omega

/-- a symbol that was written is read -/
theorem hdec_code {l : List Int} {i m : Nat} (hi : i < l.length) (hm : l.getD i 0 = m) (h0 : 0 < m) {b : List Bool} {p : Nat} (hb : (b.drop p).take m = cbits (hcode l i) m) (hsz : hcode l i < 2 ^ m) :
    ∀ f j, j < m → m ≤ f + j → hdec l b f (j + 1) (hcode l i / 2 ^ (m - j)) (p + j) = ((i : Int), 0, p + m) := by
  intro f
  induction f with
  | zero => intro j h1 h2; omega
  | succ f ih =>
    intro j h1 h2
    have hx : b[p + j]? = some ((hcode l i).testBit (m - 1 - j)) := by
      have e : ((b.drop p).take m)[j]? = some ((hcode l i).testBit (m - 1 - j)) := by
        rw [hb]
        unfold cbits
        rw [List.getElem?_map, List.getElem?_range h1]
        rfl
      rw [List.getElem?_take, if_pos h1, List.getElem?_drop] at e
      exact e
    rw [hdec, hx]
    simp only
    have hv : 2 * (hcode l i / 2 ^ (m - j)) + ((hcode l i).testBit (m - 1 - j)).toNat = hcode l i / 2 ^ (m - (j + 1)) := by
      rw [div_bit (hcode l i) (m - (j + 1)), show m - (j + 1) + 1 = m - j by omega, show m - 1 - j = m - (j + 1) by omega]
    rw [hv]
    by_cases hj : j + 1 = m
    · obtain ⟨g1, g2⟩ := hcode_lt hi hm h0
      rw [hj, Nat.sub_self, Nat.pow_zero, Nat.div_one, if_pos g2]
      refine Prod.ext ?_ (Prod.ext rfl ?_)
      · have hh := hpos_at l hi m hm
        have e : hcode l i - hf l m = (l.take i).count (m : Int) := by
          unfold hcode
          rw [hm, if_pos (by omega)]
          simp
        show (((hpos l m).getD (hcode l i - hf l m) 0 : Nat) : Int) = (i : Int)
        rw [e, List.getD_eq_getElem?_getD, hh]
        rfl
      · show p + j + 1 = p + m
        omega
    · have hge := hcode_ge (l := l) hm (show j + 1 < m by omega)
      have : ¬ hcode l i / 2 ^ (m - (j + 1)) < hf l (j + 1) + hc l (j + 1) := by
        have := (Nat.le_div_iff_mul_le (Nat.pow_pos (by decide) : 0 < 2 ^ (m - (j + 1)))).2 hge
        omega
      rw [if_neg this]
      have := ih (j + 1) (by omega) (by omega)
      rw [show p + j + 1 = p + (j + 1) by omega]
      exact this

theorem hnext_code {l : List Int} (hl : okL l) {i m : Nat} (hi : i < l.length) (hm : l.getD i 0 = m) (h0 : 0 < m) {b : List Bool} {p : Nat} (hb : (b.drop p).take m = cbits (hcode l i) m) (hsz : hcode l i < 2 ^ m) : hnext l b p = ((i : Int), 0, p + m) := by
  have hmem : (m : Int) ∈ l := by
    rw [← hm]
    simp [List.getD, List.getElem?_eq_getElem hi]
  have hm15 : m ≤ 15 := by have := (hl _ hmem).2; omega
  have := hdec_code hi hm h0 hb hsz (hlong l 15) 0 h0 (by have := long_ge (List.count_pos_iff.2 hmem) 15 hm15; omega)
  rw [Nat.sub_zero, Nat.div_eq_of_lt hsz, Nat.add_zero] at this
  exact this

end Go.Proofs.Ythdmmmfgjmmelaa
