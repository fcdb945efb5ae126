/- The finder of what comes again, as a law on lists. Own work. -/
namespace Go.Proofs.Ytkajimndclhgaaa
set_option linter.unusedVariables false
set_option linter.unusedSimpArgs false
/-! ### the finder -/
def key3 (b : List Int) (i : Nat) : Int × Int × Int := (b.getD i 0, b.getD (i + 1) 0, b.getD (i + 2) 0)
/-- the place ahead of n, the last, with these three bytes -/
def lastK (b : List Int) (k : Int × Int × Int) : Nat → Option Nat
  | 0 => none
  | n + 1 => if key3 b n = k then some n else lastK b k n
theorem lastK_some {b : List Int} {k : Int × Int × Int} : ∀ {n i : Nat}, lastK b k n = some i → i < n ∧ key3 b i = k ∧ ∀ j, i < j → j < n → key3 b j ≠ k := by
  intro n
  induction n with
  | zero => intro i h; cases h
  | succ n ih =>
    intro i h
    rw [lastK] at h
    split at h
    · rename_i hk
      injection h with h
      subst h
      exact ⟨by omega, hk, fun j h1 h2 => by omega⟩
    · rename_i hk
      obtain ⟨h1, h2, h3⟩ := ih h
      refine ⟨by omega, h2, fun j h4 h5 => ?_⟩
      by_cases e : j = n
      · subst e; exact hk
      · exact h3 j h4 (by omega)
theorem lastK_none {b : List Int} {k : Int × Int × Int} : ∀ {n : Nat}, lastK b k n = none → ∀ j, j < n → key3 b j ≠ k := by
  intro n
  induction n with
  | zero => intro _ j h; omega
  | succ n ih =>
    intro h j hj
    rw [lastK] at h
    split at h
    · cases h
    · rename_i hk
      by_cases e : j = n
      · subst e; exact hk
      · exact ih h j (by omega)
/-- how many bytes are alike, at most f more -/
def sameN (b : List Int) (i k : Nat) : Nat → Nat → Nat
  | 0, n => n
  | f + 1, n => if k + n < b.length ∧ b.getD (i + n) 0 = b.getD (k + n) 0 then sameN b i k f (n + 1) else n
def same (b : List Int) (i k : Nat) : Nat := sameN b i k 258 0

theorem sameN_spec (b : List Int) (i k : Nat) : ∀ f n, (∀ j, j < n → k + j < b.length ∧ b.getD (i + j) 0 = b.getD (k + j) 0) →
    n ≤ sameN b i k f n ∧ sameN b i k f n ≤ n + f ∧ (∀ j, j < sameN b i k f n → k + j < b.length ∧ b.getD (i + j) 0 = b.getD (k + j) 0) ∧
    (sameN b i k f n < n + f → ¬ (k + sameN b i k f n < b.length ∧ b.getD (i + sameN b i k f n) 0 = b.getD (k + sameN b i k f n) 0)) := by
  intro f
  induction f with
  | zero => intro n h; exact ⟨Nat.le_refl _, Nat.le_refl _, h, fun h1 => by simp [sameN] at h1⟩
  | succ f ih =>
    intro n h
    rw [sameN]
    split
    · rename_i hc
      obtain ⟨h1, h2, h3, h4⟩ := ih (n + 1) (fun j hj => by
        by_cases e : j = n
        · subst e; exact hc
        · exact h j (by omega))
      exact ⟨by omega, by omega, h3, fun hlt => h4 (by omega)⟩
    · rename_i hc
      exact ⟨Nat.le_refl _, by omega, h, fun _ => hc⟩

theorem same_le (b : List Int) (i k : Nat) : same b i k ≤ 258 := by have := (sameN_spec b i k 258 0 (fun j hj => by omega)).2.1; unfold same; omega
theorem same_eq {b : List Int} {i k j : Nat} (h : j < same b i k) : k + j < b.length ∧ b.getD (i + j) 0 = b.getD (k + j) 0 := (sameN_spec b i k 258 0 (fun j hj => by omega)).2.2.1 j h
theorem same_all {b : List Int} {i k : Nat} (h : ∀ j, k + j < b.length → b.getD (i + j) 0 = b.getD (k + j) 0) : min 258 (b.length - k) ≤ same b i k := by
  have := (sameN_spec b i k 258 0 (fun j hj => by omega)).2.2.2
  unfold same
  rcases Nat.lt_or_ge (sameN b i k 258 0) (min 258 (b.length - k)) with h1 | h1
  · exact absurd ⟨by omega, h _ (by omega)⟩ (this (by omega))
  · exact h1

/-- the walk back from place i -/
def walkL (b : List Int) (at' : Nat) : Nat → Nat → Nat → Nat → Nat × Nat
  | 0, _, n, d => (n, d)
  | f + 1, i, n, d =>
    if 32768 < at' - i then (n, d)
    else
      let n' := if n < same b i at' then same b i at' else n
      let d' := if n < same b i at' then at' - i else d
      match lastK b (key3 b i) i with
      | none => (n', d')
      | some j => if n' = 258 then (n', d') else walkL b at' f j n' d'
def bestL (b : List Int) (at' looks : Nat) : Nat × Nat :=
  if b.length < at' + 3 then (0, 0) else match lastK b (key3 b at') at' with
    | none => (0, 0)
    | some i => walkL b at' looks i 0 0

def goodC (b : List Int) (at' : Nat) (x : Nat × Nat) : Prop := x.1 = 0 ∨ (x.1 ≤ 258 ∧ 1 ≤ x.2 ∧ x.2 ≤ at' ∧ x.2 ≤ 32768 ∧ at' + x.1 ≤ b.length ∧ ∀ j, j < x.1 → b.getD (at' - x.2 + j) 0 = b.getD (at' + j) 0)

theorem goodC_same {b : List Int} {at' i : Nat} (hi : i < at') (hf : ¬ 32768 < at' - i) : goodC b at' (same b i at', at' - i) := by
  rcases Nat.eq_zero_or_pos (same b i at') with h0 | h0
  · exact Or.inl h0
  · right
    refine ⟨same_le _ _ _, by show 1 ≤ at' - i; omega, by show at' - i ≤ at'; omega, by show at' - i ≤ 32768; omega, ?_, fun j hj => ?_⟩
    · have := (same_eq (b := b) (i := i) (k := at') (j := same b i at' - 1) (by omega)).1
      show at' + same b i at' ≤ b.length
      omega
    · show b.getD (at' - (at' - i) + j) 0 = _
      rw [show at' - (at' - i) = i by omega]
      exact (same_eq hj).2

theorem walkL_good (b : List Int) (at' : Nat) : ∀ f i n d, i < at' → goodC b at' (n, d) → goodC b at' (walkL b at' f i n d) := by
  intro f
  induction f with
  | zero => intro i n d _ h; exact h
  | succ f ih =>
    intro i n d hi h
    rw [walkL]
    split
    · exact h
    · rename_i hf
      have hg : goodC b at' (if n < same b i at' then same b i at' else n, if n < same b i at' then at' - i else d) := by
        by_cases hl : n < same b i at'
        · rw [if_pos hl, if_pos hl]; exact goodC_same hi hf
        · rw [if_neg hl, if_neg hl]; exact h
      simp only
      generalize (if n < same b i at' then same b i at' else n) = n2 at hg ⊢
      generalize (if n < same b i at' then at' - i else d) = d2 at hg ⊢
      split
      · exact hg
      · rename_i j hj
        have := (lastK_some hj).1
        split
        · exact hg
        · exact ih _ _ _ (by omega) hg

theorem bestL_good (b : List Int) (at' looks : Nat) : goodC b at' (bestL b at' looks) := by
  unfold bestL
  split
  · exact Or.inl rfl
  · split
    · exact Or.inl rfl
    · rename_i i hi
      exact walkL_good _ _ _ _ _ _ (lastK_some hi).1 (Or.inl rfl)

theorem walkL_ge (b : List Int) (at' : Nat) : ∀ f i n d, n ≤ (walkL b at' f i n d).1 := by
  intro f
  induction f with
  | zero => intro i n d; exact Nat.le_refl _
  | succ f ih =>
    intro i n d
    rw [walkL]
    split
    · exact Nat.le_refl _
    · simp only
      have hn : n ≤ if n < same b i at' then same b i at' else n := by split <;> omega
      generalize (if n < same b i at' then same b i at' else n) = n2 at hn ⊢
      generalize (if n < same b i at' then at' - i else d) = d2
      split
      · exact hn
      · split
        · exact hn
        · exact Nat.le_trans hn (ih _ _ _)

/-- a row that came R bytes ahead is found -/
theorem walkL_far {b : List Int} {at' R : Nat} (hR : R ≤ at') (hR0 : 0 < R) (hR1 : R ≤ 100) (h3 : at' + 3 ≤ b.length) (h : ∀ j, at' + j < b.length → b.getD (at' - R + j) 0 = b.getD (at' + j) 0) :
    ∀ f i n d, at' - R ≤ i → i < at' → key3 b i = key3 b at' → i - (at' - R) < f → min 258 (b.length - at') ≤ (walkL b at' f i n d).1 := by
  have hkey : key3 b (at' - R) = key3 b at' := by
    unfold key3
    have h0 := h 0 (by omega)
    have h1 := h 1 (by omega)
    have h2 := h 2 (by omega)
    rw [Nat.add_zero, Nat.add_zero] at h0
    rw [h0, h1, h2]
  intro f
  induction f with
  | zero => intro i n d _ _ _ h; omega
  | succ f ih =>
    intro i n d hi hia hk hf
    rw [walkL, if_neg (by omega)]
    simp only
    have hn : same b i at' ≤ if n < same b i at' then same b i at' else n := by split <;> omega
    generalize (if n < same b i at' then same b i at' else n) = n2 at hn ⊢
    generalize (if n < same b i at' then at' - i else d) = d2
    by_cases e : i = at' - R
    · have hs : min 258 (b.length - at') ≤ same b i at' := same_all (fun j hj => by rw [e]; exact h j hj)
      split
      · show _ ≤ n2; omega
      · split
        · show _ ≤ n2; omega
        · exact Nat.le_trans (by omega) (walkL_ge _ _ _ _ _ _)
    · split
      · rename_i hj
        exact absurd (hkey.trans hk.symm) (lastK_none hj (at' - R) (by omega))
      · rename_i j hj
        obtain ⟨g1, g2, g3⟩ := lastK_some hj
        have hjR : at' - R ≤ j := by
          rcases Nat.lt_or_ge j (at' - R) with h5 | h5
          · exact absurd (hkey.trans hk.symm) (g3 (at' - R) h5 (by omega))
          · exact h5
        split
        · rename_i h258
          show _ ≤ n2
          omega
        · exact ih j _ _ hjR (by omega) (g2.trans hk) (by omega)

theorem bestL_far {b : List Int} {at' R looks : Nat} (hR : R ≤ at') (hR0 : 0 < R) (hR1 : R ≤ 100) (hl : 200 ≤ looks) (h3 : at' + 3 ≤ b.length) (h : ∀ j, at' + j < b.length → b.getD (at' - R + j) 0 = b.getD (at' + j) 0) :
    min 258 (b.length - at') ≤ (bestL b at' looks).1 := by
  have hkey : key3 b (at' - R) = key3 b at' := by
    unfold key3
    have h0 := h 0 (by omega)
    have h1 := h 1 (by omega)
    have h2 := h 2 (by omega)
    rw [Nat.add_zero, Nat.add_zero] at h0
    rw [h0, h1, h2]
  unfold bestL
  rw [if_neg (by omega)]
  split
  · rename_i hj
    exact absurd hkey (lastK_none hj (at' - R) (by omega))
  · rename_i i hi
    obtain ⟨g1, g2, g3⟩ := lastK_some hi
    have hiR : at' - R ≤ i := by
      rcases Nat.lt_or_ge i (at' - R) with h5 | h5
      · exact absurd hkey (g3 (at' - R) h5 (by omega))
      · exact h5
    exact walkL_far hR hR0 hR1 h3 h looks i 0 0 hiR g1 g2 (by omega)

/-! ### what Find finds -/
/-- the step at a place: the token, how far -/
def stepL (b : List Int) (looks at' : Nat) : (Int × Int × Int) × Nat :=
  let x := bestL b at' looks
  if x.1 < 3 then ((b.getD at' 0, 0, 0), 1) else ((0, (x.1 : Int), (x.2 : Int)), x.1)
def findL (b : List Int) (looks : Nat) : Nat → Nat → List (Int × Int × Int)
  | 0, _ => []
  | f + 1, at' => if at' < b.length then (stepL b looks at').1 :: findL b looks f (at' + (stepL b looks at').2) else []

theorem stepL_pos (b : List Int) (looks at' : Nat) : 0 < (stepL b looks at').2 := by
  unfold stepL
  simp only
  split
  · exact Nat.zero_lt_one
  · simp only; omega

theorem stepL_le (b : List Int) (looks at' : Nat) (h : at' < b.length) : at' + (stepL b looks at').2 ≤ b.length := by
  unfold stepL
  simp only
  split
  · simp only; omega
  · rename_i h3
    simp only
    rcases bestL_good b at' looks with h1 | h1
    · omega
    · exact h1.2.2.2.2.1

/-- fuel is enough -/
theorem findL_fuel (b : List Int) (looks : Nat) : ∀ f g at', b.length - at' ≤ f → b.length - at' ≤ g → findL b looks f at' = findL b looks g at' := by
  intro f
  induction f with
  | zero =>
    intro g at' h1 h2
    cases g with
    | zero => rfl
    | succ g => rw [findL, findL, if_neg (by omega)]
  | succ f ih =>
    intro g at' h1 h2
    cases g with
    | zero => rw [findL, findL, if_neg (by omega)]
    | succ g =>
      rw [findL, findL]
      split
      · have := stepL_pos b looks at'
        congr 1
        exact ih g _ (by omega) (by omega)
      · rfl

/-- few tokens from the second row on -/
theorem findL_few {b : List Int} {looks R : Nat} (hR0 : 0 < R) (hR1 : R ≤ 100) (hl : 200 ≤ looks) (h : ∀ i, R ≤ i → i < b.length → b.getD (i - R) 0 = b.getD i 0) :
    ∀ f at', b.length - at' ≤ f → R ≤ at' → (findL b looks f at').length ≤ (b.length - at') / 258 + 3 := by
  intro f
  induction f with
  | zero => intro at' _ _; simp [findL]
  | succ f ih =>
    intro at' h1 hat
    rw [findL]
    split
    · rename_i hlt
      rw [List.length_cons]
      have hp := stepL_pos b looks at'
      have hle := stepL_le b looks at' hlt
      rcases Nat.lt_or_ge b.length (at' + 3) with h3 | h3
      · -- at most two bytes
        have key : ∀ f at', b.length - at' ≤ f → (findL b looks f at').length ≤ b.length - at' := by
          intro f
          induction f with
          | zero => intro at' _; simp [findL]
          | succ f ih =>
            intro at' h1
            rw [findL]
            split
            · have := stepL_pos b looks at'
              rw [List.length_cons]
              have := ih (at' + (stepL b looks at').2) (by omega)
              omega
            · simp
        have := key f (at' + (stepL b looks at').2) (by omega)
        omega
      · have hbest := bestL_far (b := b) (at' := at') (looks := looks) hat hR0 hR1 hl h3 (fun j hj => by
          have := h (at' + j) (by omega) hj
          rw [show at' + j - R = at' - R + j by omega] at this
          exact this)
        have hstep : (stepL b looks at').2 = (bestL b at' looks).1 := by
          unfold stepL
          simp only
          rw [if_neg (by omega)]
        rw [hstep] at hle ⊢
        have := ih (at' + (bestL b at' looks).1) (by omega) (by omega)
        have h4 := bestL_good b at' looks
        by_cases hbig : b.length - at' ≤ 258
        · have e : (bestL b at' looks).1 = b.length - at' := by omega
          have : (findL b looks f (at' + (bestL b at' looks).1)).length = 0 := by
            cases f with
            | zero => rfl
            | succ f => rw [findL, if_neg (by omega)]; rfl
          omega
        · have e : 258 ≤ (bestL b at' looks).1 := by omega
          have : (b.length - (at' + (bestL b at' looks).1)) / 258 + 1 ≤ (b.length - at') / 258 := by
            have := Nat.div_le_div_right (c := 258) (show b.length - (at' + (bestL b at' looks).1) + 258 ≤ b.length - at' by omega)
            omega
          omega
    · simp

theorem findL_repeats {b : List Int} {looks R : Nat} (hR0 : 0 < R) (hR1 : R ≤ 100) (hl : 200 ≤ looks) (h : ∀ i, R ≤ i → i < b.length → b.getD (i - R) 0 = b.getD i 0) :
    ∀ f at', b.length - at' ≤ f → (findL b looks f at').length ≤ (R - at') + b.length / 258 + 3 := by
  intro f
  induction f with
  | zero => intro at' _; simp [findL]
  | succ f ih =>
    intro at' h1
    rcases Nat.lt_or_ge at' R with hat | hat
    · rw [findL]
      split
      · have hp := stepL_pos b looks at'
        have := ih (at' + (stepL b looks at').2) (by omega)
        rw [List.length_cons]
        omega
      · simp
    · have := findL_few hR0 hR1 hl h (f + 1) at' h1 hat
      have := Nat.div_le_div_right (c := 258) (Nat.sub_le b.length at')
      omega
end Go.Proofs.Ytkajimndclhgaaa
