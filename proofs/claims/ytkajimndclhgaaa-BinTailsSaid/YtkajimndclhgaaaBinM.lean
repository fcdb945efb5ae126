/- Numbers of sevens: what they are, that they come again. Own work. -/
namespace Go.Proofs.Ytkajimndclhgaaa
set_option linter.unusedVariables false
set_option linter.unusedSimpArgs false
/-! ### sizes -/
def sizeEnc (v : Nat) : List Int := if h : v < 128 then [(v : Int)] else ((v % 128 + 128 : Nat) : Int) :: sizeEnc (v / 128)
termination_by v
decreasing_by omega

def ofsHi (u : Nat) : List Int := if h : u = 0 then [] else ofsHi ((u - 1) / 128) ++ [(((u - 1) % 128 + 128 : Nat) : Int)]
termination_by u
decreasing_by omega

def ofsEnc (v : Nat) : List Int := ofsHi (v / 128) ++ [((v % 128 : Nat) : Int)]

/-- a row of bytes with its end marked -/
def ended (l : List Int) : Prop := ∃ i x, l = i ++ [x] ∧ x < 128 ∧ ∀ y ∈ i, 128 ≤ y

theorem sizeEnc_ended (v : Nat) : ended (sizeEnc v) := by
  induction v using sizeEnc.induct with
  | case1 v h => rw [sizeEnc, dif_pos h]; exact ⟨[], v, rfl, by omega, by simp⟩
  | case2 v h ih =>
    rw [sizeEnc, dif_neg h]
    obtain ⟨i, x, h1, h2, h3⟩ := ih
    refine ⟨((v % 128 + 128 : Nat) : Int) :: i, x, by rw [h1]; rfl, h2, ?_⟩
    intro y hy
    rcases List.mem_cons.1 hy with rfl | hy
    · omega
    · exact h3 y hy

theorem ofsHi_big (u : Nat) : ∀ y ∈ ofsHi u, 128 ≤ y := by
  induction u using ofsHi.induct with
  | case1 => rw [ofsHi, dif_pos rfl]; simp
  | case2 u h ih =>
    rw [ofsHi, dif_neg h]
    intro y hy
    rcases List.mem_append.1 hy with hy | hy
    · exact ih y hy
    · have := List.mem_singleton.1 hy; omega

theorem ofsEnc_ended (v : Nat) : ended (ofsEnc v) := ⟨_, _, rfl, by omega, ofsHi_big _⟩

theorem ended_front {a b : List Int} (ha : ended a) (hb : ended b) (h : b.take a.length = a) : a = b := by
  obtain ⟨i, x, rfl, hx, hi⟩ := ha
  obtain ⟨j, y, rfl, hy, hj⟩ := hb
  have e : (j ++ [y])[i.length]? = some x := by
    have : ((j ++ [y]).take (i ++ [x]).length)[i.length]? = some x := by rw [h]; simp
    rw [List.getElem?_take] at this
    simpa using this
  rcases Nat.lt_or_ge i.length j.length with hl | hl
  · rw [List.getElem?_append_left hl] at e
    have := hj x (List.mem_of_getElem? e)
    omega
  · rw [List.take_of_length_le (by simp; omega)] at h
    exact h.symm

theorem sizeEnc_length (v : Nat) : (sizeEnc v).length = if v < 128 then 1 else (sizeEnc (v / 128)).length + 1 := by
  conv => lhs; rw [sizeEnc]
  split <;> simp

theorem sizeEnc_mono : ∀ (w v : Nat), v ≤ w → (sizeEnc v).length ≤ (sizeEnc w).length := by
  intro w
  induction w using sizeEnc.induct with
  | case1 w h => intro v hv; rw [sizeEnc_length v, sizeEnc_length w, if_pos h, if_pos (by omega)]; omega
  | case2 w h ih =>
    intro v hv
    rw [sizeEnc_length v, sizeEnc_length w, if_neg h]
    split
    · omega
    · have := ih (v / 128) (Nat.div_le_div_right hv); omega

theorem ofsHi_length (u : Nat) : (ofsHi u).length = if u = 0 then 0 else (ofsHi ((u - 1) / 128)).length + 1 := by
  conv => lhs; rw [ofsHi]
  split <;> simp

theorem ofsHi_mono : ∀ (w v : Nat), v ≤ w → (ofsHi v).length ≤ (ofsHi w).length := by
  intro w
  induction w using ofsHi.induct with
  | case1 => intro v hv; rw [ofsHi_length v, if_pos (by omega)]; omega
  | case2 w h ih =>
    intro v hv
    rw [ofsHi_length v, ofsHi_length w, if_neg h]
    split
    · omega
    · have := ih ((v - 1) / 128) (Nat.div_le_div_right (by omega)); omega

theorem ofsEnc_mono {v w : Nat} (h : v ≤ w) : (ofsEnc v).length ≤ (ofsEnc w).length := by
  simp only [ofsEnc, List.length_append]
  have := ofsHi_mono (w / 128) (v / 128) (Nat.div_le_div_right h)
  simpa using this

theorem sizeEnc_inj : ∀ (v w : Nat), sizeEnc v = sizeEnc w → v = w := by
  intro v
  induction v using sizeEnc.induct with
  | case1 v h =>
    intro w e
    rw [sizeEnc, dif_pos h, sizeEnc] at e
    split at e
    · simp at e; omega
    · simp at e; omega
  | case2 v h ih =>
    intro w e
    rw [sizeEnc, dif_neg h, sizeEnc.eq_def w] at e
    split at e
    · simp at e; omega
    · rename_i h2
      injection e with e1 e2
      have := ih _ e2
      omega

theorem ofsHi_inj : ∀ (v w : Nat), ofsHi v = ofsHi w → v = w := by
  intro v
  induction v using ofsHi.induct with
  | case1 =>
    intro w e
    rw [ofsHi, dif_pos rfl, ofsHi] at e
    split at e
    · omega
    · simp at e
  | case2 v h ih =>
    intro w e
    rw [ofsHi, dif_neg h, ofsHi.eq_def w] at e
    split at e
    · simp at e
    · have e1 := List.append_inj_left' e rfl
      have e2 := List.append_inj_right' e rfl
      have := ih _ e1
      simp at e2
      omega

theorem ofsEnc_inj {v w : Nat} (e : ofsEnc v = ofsEnc w) : v = w := by
  have e1 := List.append_inj_left' e rfl
  have e2 := List.append_inj_right' e rfl
  have := ofsHi_inj _ _ e1
  simp at e2
  omega

/-- BinShort -/
theorem sizeEnc_front {v w : Nat} (h : v ≠ w) : ¬ (sizeEnc w).take (sizeEnc v).length = sizeEnc v := fun e => h (sizeEnc_inj _ _ (ended_front (sizeEnc_ended v) (sizeEnc_ended w) e))
theorem ofsEnc_front {v w : Nat} (h : v ≠ w) : ¬ (ofsEnc w).take (ofsEnc v).length = ofsEnc v := fun e => h (ofsEnc_inj (ended_front (ofsEnc_ended v) (ofsEnc_ended w) e))

/-! ### reading -/
def sizeDec : Nat → Int → List Int → Int × Int × Int
  | i, _, [] => if 9 ≤ i then (0, 0, 5) else (0, 0, 3)
  | i, v, c :: r => if i = 9 then (0, 0, 5) else if c < 128 then (v + c % 128 * 2 ^ (7 * i), i + 1, 0) else sizeDec (i + 1) (v + c % 128 * 2 ^ (7 * i)) r

def ofsDec : Nat → Int → List Int → Int × Int × Int
  | i, _, [] => if 8 ≤ i then (0, 0, 5) else (0, 0, 3)
  | i, v, c :: r => if i = 8 then (0, 0, 5) else
    if c < 128 then ((if 0 < i then (v + 1) * 128 else v) + c % 128, i + 1, 0) else ofsDec (i + 1) ((if 0 < i then (v + 1) * 128 else v) + c % 128) r

theorem sizeDec_enc (t : List Int) : ∀ (v i : Nat) (a : Int), i + (sizeEnc v).length ≤ 9 → sizeDec i a (sizeEnc v ++ t) = (a + v * 2 ^ (7 * i), ((i + (sizeEnc v).length : Nat) : Int), 0) := by
  intro v
  induction v using sizeEnc.induct with
  | case1 v h =>
    intro i a hi
    rw [sizeEnc_length, if_pos h] at hi ⊢
    rw [sizeEnc, dif_pos h, List.singleton_append, sizeDec, if_neg (by omega), if_pos (by omega), show (v : Int) % 128 = v by omega]
    rfl
  | case2 v h ih =>
    intro i a hi
    rw [sizeEnc_length, if_neg h] at hi ⊢
    rw [sizeEnc, dif_neg h, List.cons_append, sizeDec, if_neg (by omega), if_neg (by omega), ih _ _ (by omega)]
    have e : (((v % 128 + 128 : Nat) : Int) % 128) = ((v % 128 : Nat) : Int) := by omega
    rw [e, show 7 * (i + 1) = 7 * i + 7 by omega, Int.pow_add]
    refine Prod.ext ?_ (Prod.ext ?_ rfl)
    · show a + ((v % 128 : Nat) : Int) * 2 ^ (7 * i) + ((v / 128 : Nat) : Int) * (2 ^ (7 * i) * 2 ^ 7) = a + (v : Int) * 2 ^ (7 * i)
      generalize (2 : Int) ^ (7 * i) = p
      have hv : (v : Int) = ((v % 128 : Nat) : Int) + 128 * ((v / 128 : Nat) : Int) := by omega
      conv => rhs; rw [hv]
      rw [Int.add_mul, Int.mul_comm p (2 ^ 7), ← Int.mul_assoc, show (2 : Int) ^ 7 = 128 by decide, Int.mul_comm _ 128]
      omega
    · show ((i + 1 + (sizeEnc (v / 128)).length : Nat) : Int) = ((i + ((sizeEnc (v / 128)).length + 1) : Nat) : Int)
      omega

theorem sizeEnc_le : ∀ (n v : Nat), v < 128 ^ (n + 1) → (sizeEnc v).length ≤ n + 1 := by
  intro n
  induction n with
  | zero => intro v h; rw [sizeEnc_length, if_pos (by omega)]; omega
  | succ n ih =>
    intro v h
    rw [sizeEnc_length]
    split
    · omega
    · have := ih (v / 128) (by rw [Nat.pow_succ] at h; omega); omega

theorem sizeDec_short : ∀ (l : List Int) (i : Nat) (a : Int), i + l.length < 9 → (∀ y ∈ l, 128 ≤ y) → sizeDec i a l = (0, 0, 3) := by
  intro l
  induction l with
  | nil => intro i a h _; rw [sizeDec, if_neg (by simp at h; omega)]
  | cons c l ih =>
    intro i a h hb
    have := hb c (by simp)
    simp only [List.length_cons] at h
    rw [sizeDec, if_neg (by omega), if_neg (by omega)]
    exact ih _ _ (by omega) (fun y hy => hb y (by simp [hy]))

theorem ofsDec_hi (t : List Int) : ∀ (u : Nat), (ofsHi u).length ≤ 7 → ofsDec 0 0 (ofsHi u ++ t) = ofsDec (ofsHi u).length (if u = 0 then 0 else (u : Int) - 1) t := by
  intro u
  induction u using ofsHi.induct generalizing t with
  | case1 => intro _; rw [ofsHi, dif_pos rfl]; rfl
  | case2 u h ih =>
    intro hl
    rw [ofsHi_length, if_neg h] at hl ⊢
    rw [ofsHi, dif_neg h, List.append_assoc, ih _ (by omega), List.singleton_append, ofsDec, if_neg (by omega), if_neg (by omega)]
    congr 1
    rw [if_neg h]
    by_cases h0 : (u - 1) / 128 = 0
    · have : (ofsHi ((u - 1) / 128)).length = 0 := by rw [h0, ofsHi_length, if_pos rfl]
      rw [this, if_neg (by omega), if_pos h0]
      omega
    · have : 0 < (ofsHi ((u - 1) / 128)).length := by rw [ofsHi_length, if_neg h0]; omega
      rw [if_pos this, if_neg h0]
      omega

theorem ofsDec_enc (t : List Int) (v : Nat) (h : (ofsEnc v).length ≤ 8) : ofsDec 0 0 (ofsEnc v ++ t) = ((v : Int), ((ofsEnc v).length : Int), 0) := by
  have hl : (ofsEnc v).length = (ofsHi (v / 128)).length + 1 := by simp [ofsEnc]
  rw [hl] at h ⊢
  rw [ofsEnc, List.append_assoc, ofsDec_hi _ _ (by omega), List.singleton_append, ofsDec, if_neg (by omega), if_pos (by omega)]
  refine Prod.ext ?_ (Prod.ext rfl rfl)
  by_cases h0 : v / 128 = 0
  · have : (ofsHi (v / 128)).length = 0 := by rw [h0, ofsHi_length, if_pos rfl]
    show (if 0 < (ofsHi (v / 128)).length then ((if v / 128 = 0 then (0 : Int) else ((v / 128 : Nat) : Int) - 1) + 1) * 128 else (if v / 128 = 0 then (0 : Int) else ((v / 128 : Nat) : Int) - 1)) + ((v % 128 : Nat) : Int) % 128 = (v : Int)
    rw [this, if_neg (by omega), if_pos h0]
    omega
  · have : 0 < (ofsHi (v / 128)).length := by rw [ofsHi_length, if_neg h0]; omega
    simp only [this, h0, if_true, if_false]
    omega

theorem ofsHi_le : ∀ (n u : Nat), u < 128 ^ n → (ofsHi u).length ≤ n := by
  intro n
  induction n with
  | zero => intro u h; rw [ofsHi_length, if_pos (by omega)]; omega
  | succ n ih =>
    intro u h
    rw [ofsHi_length]
    split
    · omega
    · have := ih ((u - 1) / 128) (by rw [Nat.pow_succ] at h; omega); omega

theorem ofsDec_short : ∀ (l : List Int) (i : Nat) (a : Int), i + l.length < 8 → (∀ y ∈ l, 128 ≤ y) → ofsDec i a l = (0, 0, 3) := by
  intro l
  induction l with
  | nil => intro i a h _; rw [ofsDec, if_neg (by simp at h; omega)]
  | cons c l ih =>
    intro i a h hb
    have := hb c (by simp)
    simp only [List.length_cons] at h
    rw [ofsDec, if_neg (by omega), if_neg (by omega)]
    exact ih _ _ (by omega) (fun y hy => hb y (by simp [hy]))

theorem ended_take {l : List Int} (h : ended l) {n : Nat} (hn : n < l.length) : ∀ y ∈ l.take n, 128 ≤ y := by
  obtain ⟨i, x, rfl, hx, hi⟩ := h
  intro y hy
  rw [List.take_append_of_le_length (by simp at hn; omega)] at hy
  exact hi y (List.mem_of_mem_take hy)

theorem enc_pos (v : Nat) : 0 < (sizeEnc v).length ∧ 0 < (ofsEnc v).length := by
  rw [sizeEnc_length]
  constructor
  · split <;> omega
  · simp [ofsEnc]

theorem sizeEnc_bytes (v : Nat) : ∀ x ∈ sizeEnc v, 0 ≤ x ∧ x < 256 := by
  induction v using sizeEnc.induct with
  | case1 v h => rw [sizeEnc, dif_pos h]; intro x hx; have := List.mem_singleton.1 hx; omega
  | case2 v h ih =>
    rw [sizeEnc, dif_neg h]
    intro x hx
    rcases List.mem_cons.1 hx with rfl | hx
    · omega
    · exact ih x hx

theorem ofsHi_bytes (v : Nat) : ∀ x ∈ ofsHi v, 0 ≤ x ∧ x < 256 := by
  induction v using ofsHi.induct with
  | case1 => rw [ofsHi, dif_pos rfl]; simp
  | case2 u h ih =>
    rw [ofsHi, dif_neg h]
    intro x hx
    rcases List.mem_append.1 hx with hx | hx
    · exact ih x hx
    · have := List.mem_singleton.1 hx; omega

theorem ofsEnc_bytes (v : Nat) : ∀ x ∈ ofsEnc v, 0 ≤ x ∧ x < 256 := by
  intro x hx
  rcases List.mem_append.1 hx with hx | hx
  · exact ofsHi_bytes _ x hx
  · have := List.mem_singleton.1 hx; omega

end Go.Proofs.Ytkajimndclhgaaa
