/- Tokens: what they make. Own work. -/
namespace Go.Proofs.Ythdmmmfgjmmelaa
set_option linter.unusedVariables false
set_option linter.unusedSimpArgs false
/-- a token: the byte, the length, the distance -/
abbrev Tk := Int × Int × Int
/-- how many bytes a token makes -/
def tkN (t : Tk) : Nat := if t.2.1 = 0 then 1 else t.2.1.toNat
/-- a token may not be behind n bytes -/
def tkBad (n : Nat) (t : Tk) : Prop := (t.2.1 = 0 ∧ t.2.2 ≠ 0) ∨ (t.2.1 ≠ 0 ∧ (t.1 ≠ 0 ∨ t.2.1 < 3 ∨ 258 < t.2.1 ∨ t.2.2 < 1 ∨ 32768 < t.2.2 ∨ (n : Int) < t.2.2))
instance (n : Nat) (t : Tk) : Decidable (tkBad n t) := by unfold tkBad; infer_instance
def tkChk : Nat → List Tk → Int
  | _, [] => 0
  | n, t :: r => if tkBad n t then 2 else tkChk (n + tkN t) r
def tkCopy (d : Int) : Nat → List Int → List Int
  | 0, out => out
  | k + 1, out => tkCopy d k (out ++ [out.getD (out.length - d.toNat) 0])
def tkExp (out : List Int) (t : Tk) : List Int := if t.2.1 = 0 then out ++ [t.1] else tkCopy t.2.2 t.2.1.toNat out
def tkAll (most : Int) : List Int → List Tk → List Int × Int
  | out, [] => (out, 0)
  | out, t :: r => if most - out.length < (tkN t : Int) then ([], 5) else tkAll most (tkExp out t) r
def tkExpand (l : List Tk) (most : Int) : List Int × Int := if tkChk 0 l ≠ 0 then ([], 2) else if most < 0 then ([], 5) else tkAll most [] l
/-- what a token counts in Size -/
def tkK (t : Tk) : Nat := if t.2.1 = 0 then 1 else if t.2.1 < 0 ∨ 258 < t.2.1 then 0 else t.2.1.toNat
def tkSize (l : List Tk) : Nat := min ((l.map tkK).sum) 262145

theorem tkCopy_length (d : Int) : ∀ (k : Nat) (out : List Int), (tkCopy d k out).length = out.length + k := by
  intro k
  induction k with
  | zero => intro out; rfl
  | succ k ih => intro out; rw [tkCopy, ih]; simp; omega
theorem tkExp_length (out : List Int) (t : Tk) (h : 0 ≤ t.2.1) : (tkExp out t).length = out.length + tkN t := by
  unfold tkExp tkN
  split
  · simp
  · rw [tkCopy_length]

/-- tokens that make the bytes b from the place at on -/
inductive Makes (b : List Int) : Nat → List Tk → Nat → Prop
  | nil (n : Nat) : Makes b n [] n
  | lit {n m : Nat} {r : List Tk} (h : n < b.length) : Makes b (n + 1) r m → Makes b n ((b.getD n 0, 0, 0) :: r) m
  | copy {n m k d : Nat} {r : List Tk} (h3 : 3 ≤ k) (h258 : k ≤ 258) (hd : 1 ≤ d) (hdn : d ≤ n) (hdf : d ≤ 32768) (hk : n + k ≤ b.length) (hs : ∀ j, j < k → b.getD (n - d + j) 0 = b.getD (n + j) 0) :
      Makes b (n + k) r m → Makes b n ((0, (k : Int), (d : Int)) :: r) m

theorem Makes.le {b : List Int} {n m : Nat} {l : List Tk} (h : Makes b n l m) (hn : n ≤ b.length) : n ≤ m ∧ m ≤ b.length ∧ l.length ≤ m - n := by
  induction h with
  | nil n => exact ⟨Nat.le_refl _, hn, by simp⟩
  | lit h _ ih => have := ih (by omega); simp only [List.length_cons]; omega
  | copy h3 _ _ _ _ hk _ _ ih => have := ih hk; simp only [List.length_cons]; omega

theorem Makes.chk {b : List Int} {n m : Nat} {l : List Tk} (h : Makes b n l m) : ∀ r, tkChk n (l ++ r) = tkChk m r := by
  induction h with
  | nil n => intro r; rfl
  | @lit n m r0 h _ ih =>
    intro r
    rw [List.cons_append, tkChk, if_neg (by unfold tkBad; simp)]
    have : tkN (b.getD n 0, 0, 0) = 1 := rfl
    rw [this]; exact ih r
  | @copy n m k d r h3 h258 hd hdn hdf hk hs _ ih =>
    intro r
    rw [List.cons_append, tkChk, if_neg (by unfold tkBad; simp; omega)]
    have : tkN (0, (k : Int), (d : Int)) = k := by unfold tkN; simp; omega
    rw [this]; exact ih r

theorem take_getD {b : List Int} {n i : Nat} (h : i < n) : (b.take n).getD i 0 = b.getD i 0 := by simp [List.getD, List.getElem?_take, h]
theorem take_next {b : List Int} {n : Nat} (h : n < b.length) : b.take (n + 1) = b.take n ++ [b.getD n 0] := by
  rw [List.take_succ_eq_append_getElem h]
  simp [List.getD, h]

theorem copy_makes {b : List Int} {d : Nat} (hd : 1 ≤ d) : ∀ (k n : Nat), d ≤ n → n + k ≤ b.length → (∀ j, j < k → b.getD (n - d + j) 0 = b.getD (n + j) 0) → tkCopy d k (b.take n) = b.take (n + k) := by
  intro k
  induction k with
  | zero => intro n _ _ _; rfl
  | succ k ih =>
    intro n hn hk hs
    have hl : (b.take n).length = n := by rw [List.length_take]; omega
    rw [tkCopy, hl, Int.toNat_natCast, take_getD (by omega)]
    have h0 := hs 0 (by omega)
    rw [Nat.add_zero, Nat.add_zero] at h0
    rw [h0, ← take_next (by omega), ih (n + 1) (by omega) (by omega) (fun j hj => ?_)]
    · rw [show n + 1 + k = n + (k + 1) by omega]
    · have := hs (j + 1) (by omega)
      rw [show n + 1 - d + j = n - d + (j + 1) by omega, show n + 1 + j = n + (j + 1) by omega]
      exact this

theorem Makes.all {b : List Int} {n m : Nat} {l : List Tk} (h : Makes b n l m) {most : Int} (hm : (b.length : Int) ≤ most) : n ≤ b.length → ∀ r, tkAll most (b.take n) (l ++ r) = tkAll most (b.take m) r := by
  induction h with
  | nil n => intro _ r; rfl
  | @lit n m r0 h _ ih =>
    intro hn r
    have e : tkN (b.getD n 0, 0, 0) = 1 := rfl
    rw [List.cons_append, tkAll, e, if_neg (by rw [List.length_take]; omega)]
    have : tkExp (b.take n) (b.getD n 0, 0, 0) = b.take (n + 1) := by unfold tkExp; rw [if_pos rfl, take_next h]
    rw [this]
    exact ih (by omega) r
  | @copy n m k d r0 h3 h258 hd hdn hdf hk hs _ ih =>
    intro hn r
    have e : tkN (0, (k : Int), (d : Int)) = k := by unfold tkN; simp; omega
    rw [List.cons_append, tkAll, e, if_neg (by rw [List.length_take]; omega)]
    have : tkExp (b.take n) (0, (k : Int), (d : Int)) = b.take (n + k) := by
      unfold tkExp
      rw [if_neg (by simp; omega)]
      exact copy_makes hd k n hdn hk hs
    rw [this]
    exact ih hk r

theorem Makes.size {b : List Int} {n m : Nat} {l : List Tk} (h : Makes b n l m) : n + (l.map tkK).sum = m := by
  induction h with
  | nil n => rfl
  | @lit n m r0 h _ ih =>
    have e : tkK (b.getD n 0, 0, 0) = 1 := rfl
    rw [List.map_cons, List.sum_cons, e]; omega
  | @copy n m k d r0 h3 h258 hd hdn hdf hk hs _ ih =>
    have e : tkK (0, (k : Int), (d : Int)) = k := by
      unfold tkK
      rw [if_neg (by simp; omega), if_neg (by simp; omega)]
      simp
    rw [List.map_cons, List.sum_cons, e]; omega

theorem Makes.append {b : List Int} {n m k : Nat} {l r : List Tk} (h : Makes b n l m) (h2 : Makes b m r k) : Makes b n (l ++ r) k := by
  induction h with
  | nil n => exact h2
  | lit h _ ih => exact Makes.lit h (ih h2)
  | copy h3 h258 hd hdn hdf hk hs _ ih => exact Makes.copy h3 h258 hd hdn hdf hk hs (ih h2)

theorem Makes.cut {b : List Int} {n m : Nat} {l : List Tk} (h : Makes b n l m) : ∀ c, ∃ k, Makes b n (l.take c) k ∧ Makes b k (l.drop c) m := by
  induction h with
  | nil n => intro c; exact ⟨n, by simpa using Makes.nil n, by simpa using Makes.nil n⟩
  | lit h hr ih =>
    intro c
    cases c with
    | zero => exact ⟨_, Makes.nil _, Makes.lit h hr⟩
    | succ c =>
      obtain ⟨k, h1, h2⟩ := ih c
      exact ⟨k, Makes.lit h h1, h2⟩
  | copy h3 h258 hd hdn hdf hk hs hr ih =>
    intro c
    cases c with
    | zero => exact ⟨_, Makes.nil _, Makes.copy h3 h258 hd hdn hdf hk hs hr⟩
    | succ c =>
      obtain ⟨k, h1, h2⟩ := ih c
      exact ⟨k, Makes.copy h3 h258 hd hdn hdf hk hs h1, h2⟩

theorem Makes.expand {b : List Int} {m : Nat} {l : List Tk} (h : Makes b 0 l m) {most : Int} (hm : (b.length : Int) ≤ most) : tkExpand l most = (b.take m, 0) := by
  have h1 := h.chk []
  have h2 := h.all hm (by omega) []
  rw [List.append_nil] at h1 h2
  unfold tkExpand
  rw [h1, if_neg (by simp [tkChk]), if_neg (by omega)]
  rw [List.take_zero] at h2
  rw [h2]; rfl
end Go.Proofs.Ythdmmmfgjmmelaa
