/- Several texts as one. Own work. -/
import Derived.Test.YthdmmmfgjmmelaaPush
import Derived.Test.YthdmmmfgjmmelaaGSrt
/- Stable sorting, as a law on lists. Own work. -/
namespace Go.Proofs.Ythdmmmfgjmmelaa
set_option linter.unusedVariables false
set_option linter.unusedSimpArgs false
section
variable {α : Type} {k : α → Int}

/-- stable merge: of two that are alike the left one's first -/
def mrg (k : α → Int) : List α → List α → List α
  | [], ys => ys
  | x :: xs, [] => x :: xs
  | x :: xs, y :: ys => if k y < k x then y :: mrg k (x :: xs) ys else x :: mrg k xs (y :: ys)
termination_by xs ys => xs.length + ys.length

theorem mrg_nil (ys : List α) : mrg k [] ys = ys := by unfold mrg; rfl
theorem mrg_nil' (xs : List α) : mrg k xs [] = xs := by
  cases xs with
  | nil => exact mrg_nil _
  | cons x xs => unfold mrg; rfl
theorem mrg_cons (x y : α) (xs ys : List α) : mrg k (x :: xs) (y :: ys) = if k y < k x then y :: mrg k (x :: xs) ys else x :: mrg k xs (y :: ys) := by
  conv => lhs; unfold mrg
theorem mrg_length : ∀ (n : Nat) (xs ys : List α), xs.length + ys.length = n → (mrg k xs ys).length = n := by
  intro n
  induction n with
  | zero =>
    intro xs ys h
    have h1 : xs = [] := List.length_eq_zero_iff.1 (by omega)
    have h2 : ys = [] := List.length_eq_zero_iff.1 (by omega)
    subst h1; subst h2
    rw [mrg_nil]; rfl
  | succ n ih =>
    intro xs ys h
    cases xs with
    | nil => rw [mrg_nil]; simpa using h
    | cons x xs =>
      cases ys with
      | nil => rw [mrg_nil']; simpa using h
      | cons y ys =>
        simp only [List.length_cons] at h
        rw [mrg_cons]
        split
        · rw [List.length_cons, ih _ _ (by simp only [List.length_cons]; omega)]
        · rw [List.length_cons, ih _ _ (by simp only [List.length_cons]; omega)]

/-- rising -/
def srt (k : α → Int) (l : List α) : Prop := l.Pairwise fun a b => k a ≤ k b

/-- a cut of both that stays a cut -/
theorem mrg_cut : ∀ (n : Nat) (A1 A2 B1 B2 : List α), A1.length + B1.length = n → (∀ a ∈ A2, ∀ b ∈ B1, k b < k a) → (∀ a ∈ A1, ∀ b ∈ B2, k a ≤ k b) → mrg k (A1 ++ A2) (B1 ++ B2) = mrg k A1 B1 ++ mrg k A2 B2 := by
  intro n
  induction n with
  | zero =>
    intro A1 A2 B1 B2 h _ _
    have h1 : A1 = [] := List.length_eq_zero_iff.1 (by omega)
    have h2 : B1 = [] := List.length_eq_zero_iff.1 (by omega)
    subst h1; subst h2
    rw [mrg_nil]; rfl
  | succ n ih =>
    intro A1 A2 B1 B2 h hA hB
    cases A1 with
    | nil =>
      rw [mrg_nil, List.nil_append]
      cases B1 with
      | nil => rfl
      | cons b B1 =>
        cases A2 with
        | nil => rw [mrg_nil, mrg_nil]
        | cons a A2 =>
          rw [List.cons_append, mrg_cons, if_pos (hA a (by simp) b (by simp))]
          have := ih [] (a :: A2) B1 B2 (by simp only [List.length_cons, List.length_nil] at h ⊢; omega) (fun a ha b hb => hA a ha b (by simp [hb])) (by simp)
          rw [List.nil_append, mrg_nil] at this
          rw [this]; rfl
    | cons a A1 =>
      cases B1 with
      | nil =>
        rw [mrg_nil', List.nil_append]
        cases B2 with
        | nil => rw [mrg_nil', mrg_nil']
        | cons b B2 =>
          have hab := hB a (by simp) b (by simp)
          rw [List.cons_append, mrg_cons, if_neg (by omega)]
          have := ih A1 A2 [] (b :: B2) (by simp only [List.length_cons, List.length_nil] at h ⊢; omega) (by simp) (fun a ha b hb => hB a (by simp [ha]) b hb)
          rw [List.nil_append, mrg_nil'] at this
          rw [this]; rfl
      | cons b B1 =>
        rw [List.cons_append, List.cons_append, mrg_cons, mrg_cons]
        simp only [List.length_cons] at h
        split
        · have := ih (a :: A1) A2 B1 B2 (by simp only [List.length_cons]; omega) (fun a ha b hb => hA a ha b (by simp [hb])) hB
          rw [List.cons_append] at this
          rw [this]; rfl
        · have := ih A1 A2 (b :: B1) B2 (by simp only [List.length_cons]; omega) hA (fun a ha b hb => hB a (by simp [ha]) b hb)
          rw [List.cons_append] at this
          rw [this]; rfl

theorem mrg_left (A B : List α) (h : ∀ a ∈ A, ∀ b ∈ B, k a ≤ k b) : mrg k A B = A ++ B := by
  have := mrg_cut (k := k) _ A [] [] B rfl (by simp) h
  rw [List.append_nil, List.nil_append, mrg_nil', mrg_nil] at this
  exact this

/-- one more, behind all that are not greater -/
def insR (k : α → Int) (x : α) : List α → List α
  | [] => [x]
  | y :: l => if k x < k y then x :: y :: l else y :: insR k x l
def ssort (k : α → Int) (l : List α) : List α := l.foldl (fun a x => insR k x a) []
theorem ssort_snoc (l : List α) (x : α) : ssort k (l ++ [x]) = insR k x (ssort k l) := by simp [ssort]
theorem insR_length (x : α) (l : List α) : (insR k x l).length = l.length + 1 := by
  induction l with
  | nil => rfl
  | cons y l ih =>
    rw [insR]
    split
    · rfl
    · rw [List.length_cons, ih]; rfl
theorem insR_perm (x : α) (l : List α) : (insR k x l).Perm (x :: l) := by
  induction l with
  | nil => exact List.Perm.refl _
  | cons y l ih =>
    rw [insR]
    split
    · exact List.Perm.refl _
    · exact (List.Perm.cons y ih).trans (List.Perm.swap x y l)
theorem insR_srt {x : α} {l : List α} (h : srt k l) : srt k (insR k x l) := by
  induction l with
  | nil => exact List.pairwise_singleton _ _
  | cons y l ih =>
    rw [insR]
    have h' := List.pairwise_cons.1 h
    split
    · rename_i hlt
      refine List.pairwise_cons.2 ⟨fun z hz => ?_, h⟩
      rcases List.mem_cons.1 hz with rfl | hz
      · omega
      · have := h'.1 z hz; omega
    · rename_i hlt
      refine List.pairwise_cons.2 ⟨fun z hz => ?_, ih h'.2⟩
      have := (insR_perm (k := k) x l).mem_iff.1 hz
      rcases List.mem_cons.1 this with rfl | hz
      · omega
      · exact h'.1 z hz

theorem snoc_rec {Q : List α → Prop} (h0 : Q []) (h1 : ∀ l x, Q l → Q (l ++ [x])) (l : List α) : Q l := by
  have : ∀ n (l : List α), l.length = n → Q l := by
    intro n
    induction n with
    | zero => intro l h; rw [List.length_eq_zero_iff.1 h]; exact h0
    | succ n ih =>
      intro l h
      have hne : l ≠ [] := by intro e; subst e; simp at h
      rw [← List.dropLast_concat_getLast hne]
      exact h1 _ _ (ih _ (by rw [List.length_dropLast]; omega))
  exact this _ l rfl

theorem ssort_srt (l : List α) : srt k (ssort k l) := snoc_rec (Q := fun l => srt k (ssort k l)) List.Pairwise.nil (fun l x h => by rw [ssort_snoc]; exact insR_srt h) l
theorem ssort_perm (l : List α) : (ssort k l).Perm l := snoc_rec (Q := fun l => (ssort k l).Perm l) (List.Perm.refl _) (fun l x h => by
  rw [ssort_snoc]
  exact (insR_perm x _).trans ((List.Perm.cons x h).trans (List.perm_append_comm (l₁ := [x]) (l₂ := l)))) l
theorem ssort_length (l : List α) : (ssort k l).length = l.length := (ssort_perm l).length_eq

theorem insR_mrg (x : α) : ∀ (n : Nat) (A B : List α), A.length + B.length = n → srt k A → srt k B → insR k x (mrg k A B) = mrg k A (insR k x B) := by
  intro n
  induction n with
  | zero =>
    intro A B h _ _
    have h1 : A = [] := List.length_eq_zero_iff.1 (by omega)
    subst h1
    rw [mrg_nil, mrg_nil]
  | succ n ih =>
    intro A B h hA hB
    cases A with
    | nil => rw [mrg_nil, mrg_nil]
    | cons a A =>
      have hA' := List.pairwise_cons.1 hA
      cases B with
      | nil =>
        rw [mrg_nil']
        show (if k x < k a then x :: a :: A else a :: insR k x A) = mrg k (a :: A) [x]
        rw [mrg_cons]
        split
        · rw [mrg_nil']
        · have := ih A [] (by simp only [List.length_cons, List.length_nil] at h ⊢; omega) hA'.2 List.Pairwise.nil
          rw [mrg_nil'] at this
          rw [this]; rfl
      | cons b B =>
        have hB' := List.pairwise_cons.1 hB
        simp only [List.length_cons] at h
        rw [mrg_cons]
        by_cases h1 : k b < k a
        · rw [if_pos h1]
          show (if k x < k b then x :: b :: mrg k (a :: A) B else b :: insR k x (mrg k (a :: A) B)) = _
          show _ = mrg k (a :: A) (if k x < k b then x :: b :: B else b :: insR k x B)
          by_cases h2 : k x < k b
          · rw [if_pos h2, if_pos h2, mrg_cons, if_pos (by omega), mrg_cons, if_pos h1]
          · rw [if_neg h2, if_neg h2, mrg_cons, if_pos h1, ih (a :: A) B (by simp only [List.length_cons]; omega) hA hB'.2]
        · rw [if_neg h1]
          show (if k x < k a then x :: a :: mrg k A (b :: B) else a :: insR k x (mrg k A (b :: B))) = _
          by_cases h2 : k x < k a
          · rw [if_pos h2]
            have h3 : k x < k b := by omega
            show _ = mrg k (a :: A) (if k x < k b then x :: b :: B else b :: insR k x B)
            rw [if_pos h3, mrg_cons, if_pos h2, mrg_cons, if_neg h1]
          · rw [if_neg h2, ih A (b :: B) (by simp only [List.length_cons]; omega) hA'.2 hB]
            show a :: mrg k A (if k x < k b then x :: b :: B else b :: insR k x B) = mrg k (a :: A) (if k x < k b then x :: b :: B else b :: insR k x B)
            by_cases h3 : k x < k b
            · rw [if_pos h3, mrg_cons, if_neg h2]
            · rw [if_neg h3, mrg_cons, if_neg h1]

theorem ssort_append (A B : List α) : ssort k (A ++ B) = mrg k (ssort k A) (ssort k B) := snoc_rec (Q := fun B => ssort k (A ++ B) = mrg k (ssort k A) (ssort k B)) (by rw [List.append_nil]; exact (mrg_nil' _).symm) (fun B x h => by
  rw [← List.append_assoc, ssort_snoc, ssort_snoc, h, insR_mrg x _ _ _ rfl (ssort_srt A) (ssort_srt B)]) B

/-- what is sorted in blocks of c -/
def bsort (k : α → Int) (c : Nat) : Nat → List α → List α
  | 0, l => ssort k l
  | f + 1, l => if l.length ≤ c then ssort k l else ssort k (l.take c) ++ bsort k c f (l.drop c)
end
end Go.Proofs.Ythdmmmfgjmmelaa

/- Sorting packs: memory, comparing, swapping, turning. Own work. -/
namespace Go.Proofs.Ythdmmmfgjmmelaa
open Go Go.Proofs
set_option linter.unusedVariables false
set_option linter.unusedSimpArgs false
attribute [local irreducible] apK cpK mkK br

/-- a pack: its weight, its symbols' slice -/
abbrev Pk := Int × Sl
def pkC (x : Pk) : List Value := [.int .i64 x.1, .slice x.2.a x.2.len x.2.cap]
def pks (L : List Pk) : List Value := L.flatMap pkC
theorem pks_cons (x : Pk) (L : List Pk) : pks (x :: L) = pkC x ++ pks L := rfl
theorem pks_append (A B : List Pk) : pks (A ++ B) = pks A ++ pks B := by simp [pks]
theorem pks_length (L : List Pk) : (pks L).length = L.length * 2 := by
  induction L with
  | nil => rfl
  | cons x L ih => rw [pks_cons, List.length_append, ih, List.length_cons]; simp [pkC]; omega
theorem pkC_storable (x : Pk) : ∀ v ∈ (⟨pkC x⟩ : Array Value), storable v := by
  intro v hv
  have hv : v ∈ pkC x := by simpa using hv
  simp [pkC] at hv
  rcases hv with rfl | rfl <;> trivial

section
variable {F0 : List Nat} {w0 w : World} {ps rest : List As} {D A B : List Pk} {x y : Pk} {s : Sl}

theorem St.lpk {i : Int} {K : Array Value → Prop} (h : St F0 w0 w ps) [Rdb F0 w0 s ps 2 (pks D)] (A : List Pk) (x : Pk) (B : List Pk) (hD : D = A ++ x :: B) (hi : i = A.length) (hk : K ⟨pkC x⟩) : ixS s.a s.len i 2 fun a => ldA w a 2 K := by
  have hr := h.rdb s
  have hl := hr.1
  rw [pks_length, hD, List.length_append, List.length_cons] at hl
  subst hi
  refine hr.ix (by decide) (by omega) (by omega) fun a ha => ?_
  refine ⟨⟨pkC x⟩, rfl, fun j hj => ?_, hk⟩
  rw [add_add, hr.cell ha (by rw [pks_length, hD, List.length_append, List.length_cons]; omega), hD, pks_append, pks_cons, List.getElem?_append_right (by rw [pks_length]; omega), pks_length, List.getElem?_append_left (by simp [pkC]; omega)]
  rw [show ((A.length : Nat) : Int).toNat * 2 + j - A.length * 2 = j by omega]
  simp

theorem St.spk {i : Int} {K : World → Prop} (h : St F0 w0 w (ownA 2 s (pks D) :: ps)) (A : List Pk) (x : Pk) (B : List Pk) (y : Pk) (hD : D = A ++ x :: B) (hi : i = A.length) (hk : ∀ w', St F0 w0 w' (ownA 2 s (pks (A ++ y :: B)) :: ps) → K w') :
    ixS s.a s.len i 2 fun a => (⟨pkC y⟩ : Array Value).size = 2 ∧ Go.Proofs.Ythdmmmfgjmmelaa.stA w a ⟨pkC y⟩ K := by
  subst hi
  subst hD
  have hl := h.len
  rw [pks_length, List.length_append, List.length_cons] at hl
  obtain ⟨f, ho, hst⟩ := h.step
  rcases ho with ⟨rfl, hnil, _⟩ | ⟨ob, rs, h1, hb, h2, h3, rfl⟩
  · simp only at hl; omega
  · unfold ixS
    rw [h1]
    refine ⟨⟨by omega, by omega⟩, rfl, ?_⟩
    rw [add_mk, Nat.zero_add, Int.toNat_natCast]
    have e : pks (A ++ x :: B) ++ rs = pks A ++ (pkC x ++ (pks B ++ rs)) := by rw [pks_append, pks_cons]; simp
    rw [e] at hb
    refine stA_blk hb ?_ (pkC_storable y) fun w' hm hb' => hk w' (hst w' [ob] _ hm (Gr.refl _ _) (Or.inr ⟨ob, rs, h1, ?_, ?_, ?_, rfl⟩))
    · simp only [List.length_append, pks_length, pkC, List.length_cons, List.length_nil]
      show A.length * 2 + 2 ≤ _
      omega
    · rw [show A.length * 2 = (pks A).length from (pks_length A).symm, List.take_left' rfl, ← List.drop_drop, List.drop_left' rfl] at hb'
      rw [show (⟨pkC y⟩ : Array Value).size = (pkC x).length from rfl, List.drop_left' rfl] at hb'
      rw [pks_append, pks_cons]
      simpa using hb'
    · rw [pks_length]; simp only [List.length_append, List.length_cons]; omega
    · rw [← h3]; simp only [List.length_append, pks_length, List.length_cons]

theorem cmp_isNaN.c {n : Int} {K : Ending → World → Prop} (hk : K (.returned (.bool false)) w) : Calls Try.prog 90 ⟨[.int .i64 n]⟩ w K := by
  refine ret_k (cmp_isNaN_int.ok _ _ _ ?_)
  unfold cmp_isNaN_int
  rw [show (n != n) = false by simp]
  exact hk

theorem limit_less.c {K : Ending → World → Prop} (h : St F0 w0 w ps) (hk : ∀ (r : Int) w', (r < 0 ↔ x.1 < y.1) → St F0 w0 w' ps → K (.returned (.int .i64 r)) w') : Calls Try.prog 41 ⟨[.agg ⟨pkC x⟩, .agg ⟨pkC y⟩]⟩ w K := by
  refine ret_k (limit_Lengths_1.ok _ _ _ _ ?_)
  unfold limit_Lengths_1
  refine h.new fun na w h => ?_
  refine h.new fun nb w h => ?_
  have h : St F0 w0 w (blkA nb (pkC y) :: blkA na (pkC x) :: ps) := h
  refine (h.blk1).ldI (o := 0) rfl ?_
  refine (h.blk).ldI (o := 0) rfl ?_
  refine ret_k (cmp_Compare_int.ok _ _ _ _ ?_)
  unfold cmp_Compare_int
  refine cmp_isNaN.c ⟨_, rfl, ?_⟩
  refine cmp_isNaN.c ⟨_, rfl, ?_⟩
  refine br_f1 (br_f1 ?_)
  refine br_d (fun g => ?_) (fun g => ?_)
  · exact ⟨_, rfl, hk _ w (by omega) h.drop.drop⟩
  · refine br_d (fun g2 => ?_) (fun g2 => ?_)
    · exact ⟨_, rfl, hk _ w (by omega) h.drop.drop⟩
    · exact ⟨_, rfl, hk _ w (by omega) h.drop.drop⟩

/-- two rows of one length change places -/
theorem swapRange.c {P X M Y S : List Pk} {n : Nat} {K : Ending → World → Prop} (h : St F0 w0 w (ownA 2 s (pks (P ++ X ++ M ++ Y ++ S)) :: ps)) (hX : X.length = n) (hY : Y.length = n) (hlen : (P ++ X ++ M ++ Y ++ S).length ≤ 1000000)
    (hk : ∀ w', St F0 w0 w' (ownA 2 s (pks (P ++ Y ++ M ++ X ++ S)) :: ps) → K (.returned (.tuple ⟨[]⟩)) w') :
    Calls Try.prog 179 ⟨[.slice s.a s.len s.cap, .int .i64 (P.length : Int), .int .i64 ((P.length + X.length + M.length : Nat) : Int), .int .i64 (n : Int), .func (.func 41) ⟨[]⟩ ⟨[]⟩]⟩ w K := by
  refine ret_k (slices_swapRangeCmpFunc_limit_pack.ok _ _ _ _ _ _ ?_)
  unfold slices_swapRangeCmpFunc_limit_pack slices_swapRangeCmpFunc_limit_pack.j1
  simp only [List.length_append] at hlen
  refine loop1 (fun (i : Nat) (i' : Int) w' => i' = i ∧ i ≤ n ∧ St F0 w0 w' (ownA 2 s (pks (P ++ (Y.take i ++ X.drop i) ++ M ++ (X.take i ++ Y.drop i) ++ S)) :: ps)) (fun i => n - i) 0 ⟨rfl, by omega, by simpa using h⟩ ?_
  clear h
  rintro i i' wL I μ ⟨rfl, hi, h⟩ hin
  unfold slices_swapRangeCmpFunc_limit_pack.b1
  refine br_d (fun g => ?_) (fun g => ?_)
  · have hiX : i < X.length := by omega
    have hiY : i < Y.length := by omega
    have eX : X.drop i = X[i] :: X.drop (i + 1) := List.drop_eq_getElem_cons hiX
    have eY : Y.drop i = Y[i] :: Y.drop (i + 1) := List.drop_eq_getElem_cons hiY
    have l1 : (Y.take i).length = i := by rw [List.length_take]; omega
    have l2 : (X.take i).length = i := by rw [List.length_take]; omega
    have l3 : (X.drop (i + 1)).length = X.length - (i + 1) := List.length_drop
    refine h.drewK fun w h => ?_
    refine lt_as (wrap_i64 (by omega) (by omega)) (lt_as (wrap_i64 (by omega) (by omega)) (lt_as (wrap_i64 (by omega) (by omega)) ?_))
    refine h.lpk (s := s) (P ++ (Y.take i ++ X.drop i) ++ M ++ X.take i) Y[i] (Y.drop (i + 1) ++ S) (by rw [eY]; simp only [List.append_assoc, List.cons_append]) (by simp only [List.length_append, l1, l2, List.length_drop]; omega) ?_
    refine lt_as (wrap_i64 (by omega) (by omega)) ?_
    refine h.lpk (s := s) (P ++ Y.take i) X[i] (X.drop (i + 1) ++ M ++ (X.take i ++ Y.drop i) ++ S) (by rw [eX]; simp only [List.append_assoc, List.cons_append]) (by simp only [List.length_append, l1]; omega) ?_
    refine h.spk (P ++ Y.take i) X[i] (X.drop (i + 1) ++ M ++ (X.take i ++ Y.drop i) ++ S) Y[i] (by rw [eX]; simp only [List.append_assoc, List.cons_append]) (by simp only [List.length_append, l1]; omega) fun w h => ?_
    refine h.spk (P ++ Y.take i ++ Y[i] :: (X.drop (i + 1) ++ M ++ X.take i)) Y[i] (Y.drop (i + 1) ++ S) X[i] (by rw [eY]; simp only [List.append_assoc, List.cons_append]) (by simp only [List.length_append, List.length_cons, l1, l2, l3]; omega) fun w h => ?_
    refine lt_as (wrap_i64 (by omega) (by omega)) ?_
    refine ⟨⟨rfl, rfl, rfl, rfl⟩, hin (i + 1) _ _ ⟨by omega, by omega, ?_⟩ (by omega)⟩
    rw [List.take_succ_eq_append_getElem hiY, List.take_succ_eq_append_getElem hiX]
    simp only [List.append_assoc, List.cons_append, List.nil_append] at h ⊢
    exact h
  · have : i = n := by omega
    subst this
    rw [List.take_of_length_le (by omega), List.drop_of_length_le (by omega), List.take_of_length_le (by omega), List.drop_of_length_le (by omega), List.append_nil, List.append_nil] at h
    exact hk wL h

end
end Go.Proofs.Ythdmmmfgjmmelaa

/- Sorting packs: turning, insertion. Own work. -/
namespace Go.Proofs.Ythdmmmfgjmmelaa
open Go Go.Proofs
set_option linter.unusedVariables false
set_option linter.unusedSimpArgs false
attribute [local irreducible] apK cpK mkK br

def wt (x : Pk) : Int := x.1

theorem insR_at {α : Type} {k : α → Int} {x : α} : ∀ {T1 T2 : List α}, (∀ y ∈ T1, ¬ k x < k y) → (∀ y ∈ T2, k x < k y) → insR k x (T1 ++ T2) = T1 ++ x :: T2 := by
  intro T1
  induction T1 with
  | nil =>
    intro T2 _ h2
    cases T2 with
    | nil => rfl
    | cons y T2 =>
      show insR k x (y :: T2) = _
      rw [insR, if_pos (h2 y (by simp))]; rfl
  | cons y T1 ih =>
    intro T2 h1 h2
    rw [List.cons_append, insR, if_neg (h1 y (by simp)), ih (fun z hz => h1 z (by simp [hz])) h2]; rfl

section
variable {F0 : List Nat} {w0 w : World} {ps rest : List As} {s : Sl}

theorem rotate.c {P A B S : List Pk} {K : Ending → World → Prop} (h : St F0 w0 w (ownA 2 s (pks (P ++ A ++ B ++ S)) :: ps)) (hA : 0 < A.length) (hB : 0 < B.length) (hlen : (P ++ A ++ B ++ S).length ≤ 1000000)
    (hk : ∀ w', St F0 w0 w' (ownA 2 s (pks (P ++ B ++ A ++ S)) :: ps) → K (.returned (.tuple ⟨[]⟩)) w') :
    Calls Try.prog 165 ⟨[.slice s.a s.len s.cap, .int .i64 (P.length : Int), .int .i64 ((P.length + A.length : Nat) : Int), .int .i64 ((P.length + A.length + B.length : Nat) : Int), .func (.func 41) ⟨[]⟩ ⟨[]⟩]⟩ w K := by
  simp only [List.length_append] at hlen
  refine ret_k (slices_rotateCmpFunc_limit_pack.ok _ _ _ _ _ _ ?_)
  unfold slices_rotateCmpFunc_limit_pack slices_rotateCmpFunc_limit_pack.j1
  refine lt_as (show IntKind.i64.wrap (((P.length + A.length : Nat) : Int) - (P.length : Int)) = (A.length : Int) by rw [wrap_i64 (by omega) (by omega)]; omega) ?_
  refine lt_as (show IntKind.i64.wrap (((P.length + A.length + B.length : Nat) : Int) - ((P.length + A.length : Nat) : Int)) = (B.length : Int) by rw [wrap_i64 (by omega) (by omega)]; omega) ?_
  generalize hT : P ++ B ++ A ++ S = T at hk
  generalize hM : P.length + A.length = M
  refine loop2 (fun (a : List Pk × List Pk × List Pk × List Pk) (i j : Int) w' => i = (a.2.1.length : Int) ∧ j = (a.2.2.1.length : Int) ∧ a.1.length + a.2.1.length = M ∧ 0 < a.2.1.length ∧ 0 < a.2.2.1.length ∧ a.1.length + a.2.1.length + a.2.2.1.length + a.2.2.2.length ≤ 1000000 ∧
    a.1 ++ a.2.2.1 ++ a.2.1 ++ a.2.2.2 = T ∧ St F0 w0 w' (ownA 2 s (pks (a.1 ++ a.2.1 ++ a.2.2.1 ++ a.2.2.2)) :: ps)) (fun a => a.2.1.length + a.2.2.1.length) (P, A, B, S) ⟨rfl, rfl, hM, hA, hB, by simp only; omega, hT, h⟩ ?_
  clear h hA hB hT hM hlen
  rintro ⟨P, A, B, S⟩ i j wL I μ ⟨rfl, rfl, hM, hA, hB, hlen, hT, h⟩ hin
  simp only at hM hA hB hlen hT h hin ⊢
  unfold slices_rotateCmpFunc_limit_pack.b1
  refine br_b (fun g => ?_) (fun g => ?_)
  · have g : ¬ (A.length : Int) = (B.length : Int) := by simpa using g
    refine br_d (fun g2 => ?_) (fun g2 => ?_)
    · refine lt_as (show IntKind.i64.wrap ((M : Int) - (A.length : Int)) = (P.length : Int) by rw [wrap_i64 (by omega) (by omega)]; omega) ?_
      have l1 : (A.take B.length).length = B.length := by rw [List.length_take]; omega
      have l2 : (A.drop B.length).length = A.length - B.length := List.length_drop
      have h' : St F0 w0 wL (ownA 2 s (pks (P ++ A.take B.length ++ A.drop B.length ++ B ++ S)) :: ps) := by rw [List.append_assoc P, List.take_append_drop]; exact h
      have hc := swapRange.c (n := B.length) (K := fun e w' => e = .returned (.tuple ⟨[]⟩) ∧ lt (IntKind.i64.wrap ((A.length : Int) - (B.length : Int))) fun x7 => ((s = s ∧ (M : Int) = (M : Int)) ∧ I x7 (B.length : Int) w' ∧ μ x7 (B.length : Int) w' < μ (A.length : Int) (B.length : Int) wL)) h' l1 rfl (by simp only [List.length_append, l1, l2]; omega) fun w h => ⟨rfl, ?_⟩
      · rw [l1, l2, show P.length + B.length + (A.length - B.length) = M by omega] at hc
        exact hc
      · refine lt_as (show IntKind.i64.wrap ((A.length : Int) - (B.length : Int)) = ((A.drop B.length).length : Int) by rw [wrap_i64 (by omega) (by omega), l2]; omega) ?_
        refine ⟨⟨rfl, rfl⟩, hin (P ++ B, A.drop B.length, A.take B.length, S) _ _ _ ⟨rfl, by rw [l1], by simp only [List.length_append]; omega, by simp only; omega, by simp only; omega, by simp only [List.length_append]; omega, ?_, h⟩ (by simp only; omega)⟩
        simp only
        rw [← hT, List.append_assoc (P ++ B) (A.take _), List.take_append_drop]
    · refine lt_as (show IntKind.i64.wrap ((M : Int) - (A.length : Int)) = (P.length : Int) by rw [wrap_i64 (by omega) (by omega)]; omega) ?_
      refine lt_as (wrap_i64 (by omega) (by omega)) ?_
      refine lt_as (show IntKind.i64.wrap ((M : Int) + (B.length : Int) - (A.length : Int)) = ((P.length + A.length + (B.length - A.length) : Nat) : Int) by rw [wrap_i64 (by omega) (by omega)]; omega) ?_
      have l1 : (B.take (B.length - A.length)).length = B.length - A.length := by rw [List.length_take]; omega
      have l2 : (B.drop (B.length - A.length)).length = A.length := by rw [List.length_drop]; omega
      have h' : St F0 w0 wL (ownA 2 s (pks (P ++ A ++ B.take (B.length - A.length) ++ B.drop (B.length - A.length) ++ S)) :: ps) := by rw [List.append_assoc (P ++ A), List.take_append_drop]; exact h
      have hc := swapRange.c (n := A.length) (K := fun e w' => e = .returned (.tuple ⟨[]⟩) ∧ lt (IntKind.i64.wrap ((B.length : Int) - (A.length : Int))) fun x7 => ((s = s ∧ (M : Int) = (M : Int)) ∧ I (A.length : Int) x7 w' ∧ μ (A.length : Int) x7 w' < μ (A.length : Int) (B.length : Int) wL)) h' rfl l2 (by simp only [List.length_append, l1, l2]; omega) fun w h => ⟨rfl, ?_⟩
      · rw [l1] at hc
        exact hc
      · refine lt_as (show IntKind.i64.wrap ((B.length : Int) - (A.length : Int)) = ((B.take (B.length - A.length)).length : Int) by rw [wrap_i64 (by omega) (by omega), l1]; omega) ?_
        refine ⟨⟨rfl, rfl⟩, hin (P, B.drop (B.length - A.length), B.take (B.length - A.length), A ++ S) _ _ _ ⟨by rw [l2], rfl, by simp only; omega, by simp only; omega, by simp only; omega, by simp only [List.length_append]; omega, ?_, by simpa using h⟩ (by simp only; omega)⟩
        simp only
        rw [← hT, List.append_assoc P (B.take _), List.take_append_drop]
        simp only [List.append_assoc]
  · have g : (A.length : Int) = (B.length : Int) := by simpa using g
    unfold slices_rotateCmpFunc_limit_pack.j2
    refine lt_as (show IntKind.i64.wrap ((M : Int) - (A.length : Int)) = (P.length : Int) by rw [wrap_i64 (by omega) (by omega)]; omega) ?_
    have h' : St F0 w0 wL (ownA 2 s (pks (P ++ A ++ [] ++ B ++ S)) :: ps) := by rw [List.append_nil]; exact h
    have hc := swapRange.c (n := A.length) (K := fun e w' => e = .returned (.tuple ⟨[]⟩) ∧ K (.returned (.tuple ⟨[]⟩)) w') h' rfl (by omega) (by simp only [List.length_append, List.length_nil]; omega) fun w h => ⟨rfl, hk w (by rw [← hT]; simpa using h)⟩
    rw [List.length_nil, Nat.add_zero, hM] at hc
    exact hc

theorem insertion.c {P X S : List Pk} {K : Ending → World → Prop} (h : St F0 w0 w (ownA 2 s (pks (P ++ X ++ S)) :: ps)) (hlen : (P ++ X ++ S).length ≤ 1000000)
    (hk : ∀ w', St F0 w0 w' (ownA 2 s (pks (P ++ ssort wt X ++ S)) :: ps) → K (.returned (.tuple ⟨[]⟩)) w') :
    Calls Try.prog 135 ⟨[.slice s.a s.len s.cap, .int .i64 (P.length : Int), .int .i64 ((P.length + X.length : Nat) : Int), .func (.func 41) ⟨[]⟩ ⟨[]⟩]⟩ w K := by
  simp only [List.length_append] at hlen
  refine ret_k (slices_insertionSortCmpFunc_limit_pack.ok _ _ _ _ _ ?_)
  unfold slices_insertionSortCmpFunc_limit_pack slices_insertionSortCmpFunc_limit_pack.j1
  refine lt_as (show IntKind.i64.wrap ((P.length : Int) + 1) = ((P.length + 1 : Nat) : Int) by rw [wrap_i64 (by omega) (by omega)]; omega) ?_
  have e1 : ssort wt (X.take 1) ++ X.drop 1 = X := by
    cases X with
    | nil => rfl
    | cons x X => rfl
  refine loop1 (fun (c : Nat) (i' : Int) w' => i' = ((P.length + c : Nat) : Int) ∧ 1 ≤ c ∧ c ≤ X.length + 1 ∧ St F0 w0 w' (ownA 2 s (pks (P ++ (ssort wt (X.take c) ++ X.drop c) ++ S)) :: ps)) (fun c => X.length + 1 - c) 1 ⟨rfl, by omega, by omega, by rw [e1]; exact h⟩ ?_
  clear h e1
  rintro c i' wL I μ ⟨rfl, hc1, hc2, h⟩ hin
  unfold slices_insertionSortCmpFunc_limit_pack.b1
  refine br_d (fun g => ?_) (fun g => ?_)
  · have hcX : c < X.length := by omega
    have eX : X.drop c = X[c] :: X.drop (c + 1) := List.drop_eq_getElem_cons hcX
    have lS : (ssort wt (X.take c)).length = c := by rw [ssort_length, List.length_take]; omega
    have hS := ssort_srt (k := wt) (X.take c)
    have hnx : ssort wt (X.take (c + 1)) = insR wt X[c] (ssort wt (X.take c)) := by rw [List.take_succ_eq_append_getElem hcX, ssort_snoc]
    rw [eX] at h
    generalize X[c] = x at h hnx
    generalize ssort wt (X.take c) = T at h hnx lS hS
    unfold slices_insertionSortCmpFunc_limit_pack.j2 slices_insertionSortCmpFunc_limit_pack.j4
    have h0 : St F0 w0 wL (ownA 2 s (pks (P ++ T ++ x :: ([] ++ (X.drop (c + 1) ++ S)))) :: ps) := by
      simp only [List.append_assoc, List.cons_append, List.nil_append] at h ⊢
      exact h
    -- a place is found
    have done : ∀ (T1 T2 : List Pk) (w : World), T1 ++ T2 = T → (∀ y ∈ T1, ¬ wt x < wt y) → (∀ y ∈ T2, wt x < wt y) → St F0 w0 w (ownA 2 s (pks (P ++ T1 ++ x :: (T2 ++ (X.drop (c + 1) ++ S)))) :: ps) →
        slices_insertionSortCmpFunc_limit_pack.j3 s (P.length : Int) ((P.length + X.length : Nat) : Int) ((P.length + c : Nat) : Int) (fun v w' => K (.returned v) w') (fun d' a' b' i' w' => (d' = s ∧ a' = (P.length : Int) ∧ b' = ((P.length + X.length : Nat) : Int)) ∧ I i' w' ∧ μ i' w' < μ ((P.length + c : Nat) : Int) wL) w := by
      intro T1 T2 w hT h1 h2 h
      unfold slices_insertionSortCmpFunc_limit_pack.j3
      refine lt_as (show IntKind.i64.wrap (((P.length + c : Nat) : Int) + 1) = ((P.length + (c + 1) : Nat) : Int) by rw [wrap_i64 (by omega) (by omega)]; omega) ?_
      refine ⟨⟨rfl, rfl, rfl⟩, hin (c + 1) _ _ ⟨rfl, by omega, by omega, ?_⟩ (by omega)⟩
      rw [hnx, ← hT, insR_at h1 h2]
      simp only [List.append_assoc, List.cons_append] at h ⊢
      exact h
    refine loop1 (fun (a : List Pk × List Pk) (j' : Int) w' => j' = ((P.length + a.1.length : Nat) : Int) ∧ a.1 ++ a.2 = T ∧ (∀ y ∈ a.2, wt x < wt y) ∧ St F0 w0 w' (ownA 2 s (pks (P ++ a.1 ++ x :: (a.2 ++ (X.drop (c + 1) ++ S)))) :: ps)) (fun a => a.1.length) (T, []) ⟨by rw [lS], List.append_nil _, by simp, h0⟩ ?_
    clear h h0
    rintro ⟨T1, T2⟩ j' w2 I2 μ2 ⟨rfl, hT, h2, h⟩ hin2
    simp only at hT h2 h hin2 ⊢
    have lT : T1.length + T2.length = c := by rw [← lS, ← hT, List.length_append]
    unfold slices_insertionSortCmpFunc_limit_pack.b2
    refine h.drewK fun w h => ?_
    refine br_d (fun g1 => ?_) (fun g1 => ?_)
    · have hne : T1 ≠ [] := by intro e; subst e; simp at g1
      obtain ⟨T0, y, rfl⟩ : ∃ T0 y, T1 = T0 ++ [y] := ⟨T1.dropLast, T1.getLast hne, (List.dropLast_concat_getLast hne).symm⟩
      rw [List.length_append, List.length_singleton] at lT
      have eD : P ++ (T0 ++ [y]) ++ x :: (T2 ++ (X.drop (c + 1) ++ S)) = (P ++ T0) ++ y :: x :: (T2 ++ (X.drop (c + 1) ++ S)) := by simp only [List.append_assoc, List.cons_append, List.nil_append]
      have ejy : IntKind.i64.wrap (((P.length + (T0 ++ [y]).length : Nat) : Int) - 1) = ((P ++ T0).length : Int) := by rw [List.length_append, List.length_append, List.length_singleton, wrap_i64 (by omega) (by omega)]; omega
      have ejx : ((P.length + (T0 ++ [y]).length : Nat) : Int) = ((P ++ (T0 ++ [y])).length : Int) := by rw [@List.length_append _ P]
      refine h.lpk (s := s) (P ++ (T0 ++ [y])) x (T2 ++ (X.drop (c + 1) ++ S)) rfl ejx ?_
      refine lt_as ejy ?_
      refine h.lpk (s := s) (P ++ T0) y (x :: (T2 ++ (X.drop (c + 1) ++ S))) eD rfl ?_
      refine limit_less.c (x := x) (y := y) h fun r w hr h => ⟨_, rfl, ?_⟩
      refine br_d (fun g2 => ?_) (fun g2 => ?_)
      · refine h.drewK fun w h => ?_
        refine lt_as ejy (lt_as ejy ?_)
        refine h.lpk (s := s) (P ++ T0) y (x :: (T2 ++ (X.drop (c + 1) ++ S))) eD rfl ?_
        refine h.lpk (s := s) (P ++ (T0 ++ [y])) x (T2 ++ (X.drop (c + 1) ++ S)) rfl ejx ?_
        refine h.spk (P ++ (T0 ++ [y])) x (T2 ++ (X.drop (c + 1) ++ S)) y rfl ejx fun w h => ?_
        refine h.spk (P ++ T0) y (y :: (T2 ++ (X.drop (c + 1) ++ S))) x (by simp only [List.append_assoc, List.cons_append, List.nil_append]) rfl fun w h => ?_
        refine lt_as (ejy.trans (show ((P ++ T0).length : Int) = ((P.length + T0.length : Nat) : Int) by rw [List.length_append])) ?_
        refine ⟨⟨rfl, rfl, rfl, rfl⟩, hin2 (T0, y :: T2) _ _ ⟨rfl, by rw [← hT]; simp, ?_, ?_⟩ (by simp)⟩
        · intro z hz
          rcases List.mem_cons.1 hz with rfl | hz
          · exact hr.1 g2
          · exact h2 z hz
        · simp only [List.append_assoc, List.cons_append] at h ⊢
          exact h
      · refine done (T0 ++ [y]) T2 w hT ?_ h2 h
        intro z hz
        have hxy : ¬ wt x < wt y := fun e => g2 (hr.2 e)
        rw [← hT] at hS
        have hS := (List.pairwise_append.1 (List.pairwise_append.1 hS).1).2.2
        rcases List.mem_append.1 hz with hz | hz
        · have := hS z hz y (by simp)
          omega
        · rw [List.mem_singleton.1 hz]; exact hxy
    · have hne : T1 = [] := by
        cases T1 with
        | nil => rfl
        | cons y T1 => exfalso; simp only [List.length_cons] at g1; omega
      subst hne
      exact done [] T2 w hT (by simp) h2 h
  · refine hk wL ?_
    rw [List.take_of_length_le (by omega), List.drop_of_length_le (by omega), List.append_nil] at h
    exact h
end
end Go.Proofs.Ythdmmmfgjmmelaa

/- Sorting packs: merging in place. Own work. -/
namespace Go.Proofs.Ythdmmmfgjmmelaa
open Go Go.Proofs
set_option linter.unusedVariables false
set_option linter.unusedSimpArgs false
attribute [local irreducible] apK cpK mkK br

theorem srt_take {α : Type} {k : α → Int} {l : List α} (h : srt k l) (n : Nat) : srt k (l.take n) := List.Pairwise.sublist (List.take_sublist n l) h
theorem srt_drop {α : Type} {k : α → Int} {l : List α} (h : srt k l) (n : Nat) : srt k (l.drop n) := List.Pairwise.sublist (List.drop_sublist n l) h
theorem srt_le {α : Type} {k : α → Int} {l : List α} (h : srt k l) {i j : Nat} (hij : i ≤ j) (hj : j < l.length) : k (l[i]'(by omega)) ≤ k l[j] := by
  rcases Nat.eq_or_lt_of_le hij with e | e
  · subst e; exact Int.le_refl _
  · exact List.pairwise_iff_getElem.1 h i j (by omega) hj e
theorem mem_take_ix {α : Type} {l : List α} {n : Nat} {x : α} (h : x ∈ l.take n) : ∃ i, ∃ (hi : i < l.length), i < n ∧ l[i] = x := by
  obtain ⟨i, hi, e⟩ := List.mem_iff_getElem.1 h
  rw [List.length_take] at hi
  exact ⟨i, by omega, by omega, by rw [← e, List.getElem_take]⟩
theorem mem_drop_ix {α : Type} {l : List α} {n : Nat} {x : α} (h : x ∈ l.drop n) : ∃ i, ∃ (hi : i < l.length), n ≤ i ∧ l[i] = x := by
  obtain ⟨i, hi, e⟩ := List.mem_iff_getElem.1 h
  rw [List.length_drop] at hi
  exact ⟨n + i, by omega, by omega, by rw [← e, List.getElem_drop]⟩

/-- the middle of two -/
theorem half_i {lo hi : Nat} {K : Int → Prop} (h : lo + hi < 4611686018427387904) (hk : K (((lo + hi) / 2 : Nat) : Int)) :
    lt (IntKind.i64.wrap ((lo : Int) + (hi : Int))) fun x8 => lt (IntKind.u64.wrap x8) fun x9 => (0 : Int) ≤ 1 ∧ lt (shrV .u64 x9 1) fun x10 => lt (IntKind.i64.wrap x10) fun x11 => K x11 := by
  refine lt_as (wrap_i64 (by omega) (by omega)) ?_
  have e1 : IntKind.u64.wrap ((lo : Int) + hi) = (lo : Int) + hi := by
    have e : ∀ x, IntKind.u64.wrap x = x % 18446744073709551616 := fun x => by simp [IntKind.wrap, IntKind.bits, IntKind.signed]
    rw [e]; omega
  refine lt_as e1 ⟨by decide, ?_⟩
  have e2 : shrV .u64 ((lo : Int) + hi) 1 = (((lo + hi) / 2 : Nat) : Int) := by
    unfold shrV
    have : ((lo : Int) + (hi : Int)) = ((lo + hi : Nat) : Int) := by omega
    rw [this]
    show Int.fdiv ((lo + hi : Nat) : Int) 2 = _
    rw [Int.fdiv_eq_ediv_of_nonneg _ (by decide)]
    omega
  refine lt_as e2 ?_
  exact lt_as (wrap_i64 (by omega) (by omega)) hk

section
variable {F0 : List Nat} {w0 w : World} {ps rest : List As} {s : Sl}

/-- place i of a row -/
theorem ix_split {D : List Pk} {i : Nat} (h : i < D.length) : D = D.take i ++ D[i] :: D.drop (i + 1) := by
  rw [← List.drop_eq_getElem_cons h, List.take_append_drop]
theorem St.lpi {D : List Pk} {i : Int} {K : Array Value → Prop} (h : St F0 w0 w ps) [Rdb F0 w0 s ps 2 (pks D)] (j : Nat) (hi : i = j) (hj : j < D.length) (hk : K ⟨pkC D[j]⟩) : ixS s.a s.len i 2 fun a => ldA w a 2 K :=
  h.lpk (D.take j) D[j] (D.drop (j + 1)) (ix_split hj) (by rw [List.length_take]; omega) hk

theorem getA {P A B S : List Pk} {i : Nat} (h : i < A.length) (h2 : P.length + i < (P ++ A ++ B ++ S).length) : (P ++ A ++ B ++ S)[P.length + i] = A[i] := by
  simp only [List.append_assoc]
  rw [List.getElem_append_right (by omega)]
  simp [List.getElem_append_left, h]
theorem getB {P A B S : List Pk} {i : Nat} (h : i < B.length) (h2 : P.length + A.length + i < (P ++ A ++ B ++ S).length) : (P ++ A ++ B ++ S)[P.length + A.length + i] = B[i] := by
  have e : P ++ A ++ B ++ S = (P ++ A) ++ B ++ [] ++ S := by simp
  have h3 : (P ++ A).length + i < ((P ++ A) ++ B ++ [] ++ S).length := by simp only [List.length_append] at h2 ⊢; simp; omega
  have := getA (P := P ++ A) (A := B) (B := []) (S := S) h h3
  rw [← this]
  congr 1
  simp

/-- one pack goes up over those that are less -/
theorem up.c {P B1 R : List Pk} {x : Pk} {K : Ending → World → Prop} (h : St F0 w0 w (ownA 2 s (pks (P ++ x :: (B1 ++ R))) :: ps)) (hlen : (P ++ x :: (B1 ++ R)).length ≤ 1000000)
    (hk : ∀ w', St F0 w0 w' (ownA 2 s (pks (P ++ B1 ++ x :: R)) :: ps) → K (.returned (.tuple ⟨[]⟩)) w') :
    slices_symMergeCmpFunc_limit_pack.j16 s (P.length : Int) ((P.length + 1 + B1.length : Nat) : Int) (fun v w' => K (.returned v) w') w := by
  simp only [List.length_append, List.length_cons] at hlen
  unfold slices_symMergeCmpFunc_limit_pack.j16 slices_symMergeCmpFunc_limit_pack.j18
  refine loop1 (fun (c : Nat) (k' : Int) w' => k' = ((P.length + c : Nat) : Int) ∧ c ≤ B1.length ∧ St F0 w0 w' (ownA 2 s (pks (P ++ B1.take c ++ x :: (B1.drop c ++ R))) :: ps)) (fun c => B1.length - c) 0 ⟨by simp, by omega, by simpa using h⟩ ?_
  clear h
  rintro c k' wL I μ ⟨rfl, hc, h⟩ hin
  unfold slices_symMergeCmpFunc_limit_pack.b4
  refine lt_as (wrap_i64 (by omega) (by omega)) ?_
  refine br_d (fun g => ?_) (fun g => ?_)
  · have hcB : c < B1.length := by omega
    have eB : B1.drop c = B1[c] :: B1.drop (c + 1) := List.drop_eq_getElem_cons hcB
    have lT : (B1.take c).length = c := by rw [List.length_take]; omega
    rw [eB] at h
    refine h.drewK fun w h => ?_
    have e1 : IntKind.i64.wrap (((P.length + c : Nat) : Int) + 1) = ((P ++ B1.take c ++ [x]).length : Int) := by simp only [List.length_append, List.length_singleton, lT]; rw [wrap_i64 (by omega) (by omega)]; omega
    have e2 : ((P.length + c : Nat) : Int) = ((P ++ B1.take c).length : Int) := by rw [@List.length_append _ P, lT]
    refine lt_as e1 (lt_as e1 ?_)
    refine h.lpk (s := s) (P ++ B1.take c ++ [x]) B1[c] (B1.drop (c + 1) ++ R) (by simp only [List.append_assoc, List.cons_append, List.nil_append]) rfl ?_
    refine h.lpk (s := s) (P ++ B1.take c) x (B1[c] :: B1.drop (c + 1) ++ R) rfl e2 ?_
    refine h.spk (P ++ B1.take c) x (B1[c] :: B1.drop (c + 1) ++ R) B1[c] rfl e2 fun w h => ?_
    refine h.spk (P ++ B1.take c ++ [B1[c]]) B1[c] (B1.drop (c + 1) ++ R) x (by simp only [List.append_assoc, List.cons_append, List.nil_append]) (by simp only [List.length_append, List.length_singleton]) fun w h => ?_
    refine lt_as (show IntKind.i64.wrap (((P.length + c : Nat) : Int) + 1) = ((P.length + (c + 1) : Nat) : Int) by rw [wrap_i64 (by omega) (by omega)]; omega) ?_
    refine ⟨⟨rfl, rfl⟩, hin (c + 1) _ _ ⟨rfl, by omega, ?_⟩ (by omega)⟩
    rw [List.take_succ_eq_append_getElem hcB]
    simp only [List.append_assoc, List.cons_append, List.nil_append] at h ⊢
    exact h
  · have : c = B1.length := by omega
    subst this
    rw [List.take_length, List.drop_length, List.nil_append] at h
    unfold slices_symMergeCmpFunc_limit_pack.j17
    exact hk wL h

/-- one pack goes down over those that are greater -/
theorem down.c {P A2 R : List Pk} {y : Pk} {K : Ending → World → Prop} (h : St F0 w0 w (ownA 2 s (pks (P ++ A2 ++ y :: R)) :: ps)) (hlen : (P ++ A2 ++ y :: R).length ≤ 1000000)
    (hk : ∀ w', St F0 w0 w' (ownA 2 s (pks (P ++ y :: (A2 ++ R))) :: ps) → K (.returned (.tuple ⟨[]⟩)) w') :
    slices_symMergeCmpFunc_limit_pack.j11 s ((P.length + A2.length : Nat) : Int) (P.length : Int) (fun v w' => K (.returned v) w') w := by
  simp only [List.length_append, List.length_cons] at hlen
  unfold slices_symMergeCmpFunc_limit_pack.j11 slices_symMergeCmpFunc_limit_pack.j13
  refine loop1 (fun (a : List Pk × List Pk) (k' : Int) w' => k' = ((P.length + a.1.length : Nat) : Int) ∧ a.1 ++ a.2 = A2 ∧ St F0 w0 w' (ownA 2 s (pks (P ++ a.1 ++ y :: (a.2 ++ R))) :: ps)) (fun a => a.1.length) (A2, []) ⟨rfl, by simp, by simpa using h⟩ ?_
  clear h
  rintro ⟨T1, T2⟩ k' wL I μ ⟨rfl, hT, h⟩ hin
  simp only at hT h hin ⊢
  have lT : T1.length + T2.length = A2.length := by rw [← hT, List.length_append]
  unfold slices_symMergeCmpFunc_limit_pack.b2
  refine br_d (fun g => ?_) (fun g => ?_)
  · have hne : T1 ≠ [] := by intro e; subst e; simp at g
    obtain ⟨T0, z, rfl⟩ : ∃ T0 z, T1 = T0 ++ [z] := ⟨T1.dropLast, T1.getLast hne, (List.dropLast_concat_getLast hne).symm⟩
    rw [List.length_append, List.length_singleton] at lT
    refine h.drewK fun w h => ?_
    have e1 : IntKind.i64.wrap (((P.length + (T0 ++ [z]).length : Nat) : Int) - 1) = ((P ++ T0).length : Int) := by rw [List.length_append, List.length_append, List.length_singleton, wrap_i64 (by omega) (by omega)]; omega
    have e2 : ((P.length + (T0 ++ [z]).length : Nat) : Int) = ((P ++ (T0 ++ [z])).length : Int) := by rw [@List.length_append _ P]
    refine lt_as e1 (lt_as e1 ?_)
    refine h.lpk (s := s) (P ++ T0) z (y :: (T2 ++ R)) (by simp only [List.append_assoc, List.cons_append, List.nil_append]) rfl ?_
    refine h.lpk (s := s) (P ++ (T0 ++ [z])) y (T2 ++ R) rfl e2 ?_
    refine h.spk (P ++ (T0 ++ [z])) y (T2 ++ R) z rfl e2 fun w h => ?_
    refine h.spk (P ++ T0) z (z :: (T2 ++ R)) y (by simp only [List.append_assoc, List.cons_append, List.nil_append]) rfl fun w h => ?_
    refine lt_as (e1.trans (show ((P ++ T0).length : Int) = ((P.length + T0.length : Nat) : Int) by rw [List.length_append])) ?_
    refine ⟨⟨rfl, rfl⟩, hin (T0, z :: T2) _ _ ⟨rfl, by rw [← hT]; simp, ?_⟩ (by simp)⟩
    simp only [List.append_assoc, List.cons_append] at h ⊢
    exact h
  · have hne : T1 = [] := by
      cases T1 with
      | nil => rfl
      | cons z T1 => exfalso; simp only [List.length_cons] at g; omega
    subst hne
    rw [List.nil_append] at hT
    subst hT
    rw [List.append_nil] at h
    unfold slices_symMergeCmpFunc_limit_pack.j12
    exact hk wL h

end
end Go.Proofs.Ythdmmmfgjmmelaa

/- Sorting packs: merging in place, whole. Own work. -/
namespace Go.Proofs.Ythdmmmfgjmmelaa
open Go Go.Proofs
set_option linter.unusedVariables false
set_option linter.unusedSimpArgs false
attribute [local irreducible] apK cpK mkK br

section
variable {F0 : List Nat} {w0 w : World} {ps rest : List As} {s : Sl}

theorem symMerge.one {P B S : List Pk} {x : Pk} {K : Ending → World → Prop} (h : St F0 w0 w (ownA 2 s (pks (P ++ [x] ++ B ++ S)) :: ps)) (hB : srt wt B) (hlen : (P ++ [x] ++ B ++ S).length ≤ 1000000)
    (hk : ∀ w', St F0 w0 w' (ownA 2 s (pks (P ++ mrg wt [x] B ++ S)) :: ps) → K (.returned (.tuple ⟨[]⟩)) w') :
    slices_symMergeCmpFunc_limit_pack.j15 s (P.length : Int) ((P.length + 1 : Nat) : Int) ((P.length + 1 + B.length : Nat) : Int) (fun v w' => K (.returned v) w') w := by
  have hlen2 := hlen
  simp only [List.length_append, List.length_singleton] at hlen
  unfold slices_symMergeCmpFunc_limit_pack.j15
  refine loop2 (fun (a : Nat × Nat) (i j : Int) w' => i = ((P.length + 1 + a.1 : Nat) : Int) ∧ j = ((P.length + 1 + a.2 : Nat) : Int) ∧ a.1 ≤ a.2 ∧ a.2 ≤ B.length ∧ (∀ y ∈ B.take a.1, wt y < wt x) ∧ (∀ y ∈ B.drop a.2, ¬ wt y < wt x) ∧ St F0 w0 w' (ownA 2 s (pks (P ++ [x] ++ B ++ S)) :: ps)) (fun a => a.2 - a.1) (0, B.length) ⟨rfl, rfl, by simp, by simp, by simp, by simp, h⟩ ?_
  clear h
  rintro ⟨lo, hi⟩ i j wL I μ ⟨rfl, rfl, hlh, hhB, h1, h2, h⟩ hin
  simp only at hlh hhB h1 h2 h hin ⊢
  unfold slices_symMergeCmpFunc_limit_pack.b5
  refine br_d (fun g => ?_) (fun g => ?_)
  · refine half_i (by omega) ?_
    obtain ⟨q, hq⟩ : ∃ q, (P.length + 1 + lo + (P.length + 1 + hi)) / 2 = P.length + 1 + q := ⟨(lo + hi) / 2, by omega⟩
    rw [hq]
    have hqB : q < B.length := by omega
    refine h.drewK fun w h => ?_
    refine h.lpi (s := s) (P.length + 1 + q) rfl (by simp only [List.length_append, List.length_singleton]; omega) ?_
    have eg := getB (P := P) (A := [x]) (B := B) (S := S) hqB (by simp only [List.length_append, List.length_singleton]; omega)
    simp only [List.length_singleton] at eg
    rw [eg]
    refine h.lpi (s := s) P.length rfl (by simp only [List.length_append, List.length_singleton]; omega) ?_
    have eg2 := getA (P := P) (A := [x]) (B := B) (S := S) (i := 0) (by simp) (by simp only [List.length_append, List.length_singleton]; omega)
    simp only [Nat.add_zero, List.getElem_cons_zero] at eg2
    rw [eg2]
    refine limit_less.c (x := B[q]) (y := x) h fun r w hr h => ⟨_, rfl, ?_⟩
    refine br_d (fun g2 => ?_) (fun g2 => ?_)
    · refine lt_as (show IntKind.i64.wrap (((P.length + 1 + q : Nat) : Int) + 1) = ((P.length + 1 + (q + 1) : Nat) : Int) by rw [wrap_i64 (by omega) (by omega)]; omega) ?_
      refine ⟨⟨rfl, rfl⟩, hin (q + 1, hi) _ _ _ ⟨rfl, rfl, by simp only; omega, hhB, ?_, h2, h⟩ (by simp only; omega)⟩
      intro y hy
      obtain ⟨i, hi1, hi2, rfl⟩ := mem_take_ix hy
      have := srt_le hB (show i ≤ q by omega) hqB
      have h3 : wt B[q] < wt x := hr.1 g2
      omega
    · refine ⟨⟨rfl, rfl⟩, hin (lo, q) _ _ _ ⟨rfl, rfl, by simp only; omega, by simp only; omega, h1, ?_, h⟩ (by simp only; omega)⟩
      intro y hy
      obtain ⟨i, hi1, hi2, rfl⟩ := mem_drop_ix hy
      have := srt_le hB (show q ≤ i by omega) hi1
      have h3 : ¬ wt B[q] < wt x := fun e => g2 (hr.2 e)
      omega
  · have : lo = hi := by omega
    subst this
    have lT : (B.take lo).length = lo := by rw [List.length_take]; omega
    have hu := up.c (P := P) (B1 := B.take lo) (R := B.drop lo ++ S) (x := x) (K := K) (s := s) (F0 := F0) (w0 := w0) (ps := ps) (w := wL) (by
      rw [← List.append_assoc (B.take lo), List.take_append_drop]
      simpa using h) (by rw [← List.append_assoc (B.take lo), List.take_append_drop]; simpa using hlen2) fun w h => hk w (by
        have e := mrg_cut (k := wt) _ [] [x] (B.take lo) (B.drop lo) rfl (by intro a ha b hb; rw [List.mem_singleton.1 ha]; exact h1 b hb) (by simp)
        rw [List.nil_append, List.take_append_drop, mrg_nil, mrg_left [x] (B.drop lo) (by intro a ha b hb; rw [List.mem_singleton.1 ha]; have := h2 b hb; omega)] at e
        rw [e]
        simpa using h)
    rw [lT] at hu
    exact hu

theorem symMerge.last {P A S : List Pk} {y : Pk} {K : Ending → World → Prop} (h : St F0 w0 w (ownA 2 s (pks (P ++ A ++ [y] ++ S)) :: ps)) (hA : srt wt A) (hlen : (P ++ A ++ [y] ++ S).length ≤ 1000000)
    (hk : ∀ w', St F0 w0 w' (ownA 2 s (pks (P ++ mrg wt A [y] ++ S)) :: ps) → K (.returned (.tuple ⟨[]⟩)) w') :
    slices_symMergeCmpFunc_limit_pack.j10 s ((P.length + A.length : Nat) : Int) (P.length : Int) ((P.length + A.length : Nat) : Int) (fun v w' => K (.returned v) w') w := by
  have hlen2 := hlen
  simp only [List.length_append, List.length_singleton] at hlen
  unfold slices_symMergeCmpFunc_limit_pack.j10
  refine loop2 (fun (a : Nat × Nat) (i j : Int) w' => i = ((P.length + a.1 : Nat) : Int) ∧ j = ((P.length + a.2 : Nat) : Int) ∧ a.1 ≤ a.2 ∧ a.2 ≤ A.length ∧ (∀ z ∈ A.take a.1, ¬ wt y < wt z) ∧ (∀ z ∈ A.drop a.2, wt y < wt z) ∧ St F0 w0 w' (ownA 2 s (pks (P ++ A ++ [y] ++ S)) :: ps)) (fun a => a.2 - a.1) (0, A.length) ⟨by simp, rfl, by simp, by simp, by simp, by simp, h⟩ ?_
  clear h
  rintro ⟨lo, hi⟩ i j wL I μ ⟨rfl, rfl, hlh, hhA, h1, h2, h⟩ hin
  simp only at hlh hhA h1 h2 h hin ⊢
  unfold slices_symMergeCmpFunc_limit_pack.b3
  refine br_d (fun g => ?_) (fun g => ?_)
  · refine half_i (by omega) ?_
    obtain ⟨q, hq⟩ : ∃ q, (P.length + lo + (P.length + hi)) / 2 = P.length + q := ⟨(lo + hi) / 2, by omega⟩
    rw [hq]
    have hqA : q < A.length := by omega
    refine h.drewK fun w h => ?_
    refine h.lpi (s := s) (P.length + A.length) rfl (by simp only [List.length_append, List.length_singleton]; omega) ?_
    have eg := getB (P := P) (A := A) (B := [y]) (S := S) (i := 0) (by simp) (by simp only [List.length_append, List.length_singleton]; omega)
    simp only [Nat.add_zero, List.getElem_cons_zero] at eg
    rw [eg]
    refine h.lpi (s := s) (P.length + q) rfl (by simp only [List.length_append, List.length_singleton]; omega) ?_
    rw [getA (P := P) (A := A) (B := [y]) (S := S) hqA]
    refine limit_less.c (x := y) (y := A[q]) h fun r w hr h => ⟨_, rfl, ?_⟩
    refine br_b (fun g2 => ?_) (fun g2 => ?_)
    · have g2 : ¬ r < 0 := by simpa using g2
      refine lt_as (show IntKind.i64.wrap (((P.length + q : Nat) : Int) + 1) = ((P.length + (q + 1) : Nat) : Int) by rw [wrap_i64 (by omega) (by omega)]; omega) ?_
      refine ⟨⟨rfl, rfl⟩, hin (q + 1, hi) _ _ _ ⟨rfl, rfl, by simp only; omega, hhA, ?_, h2, h⟩ (by simp only; omega)⟩
      intro z hz
      obtain ⟨i, hi1, hi2, rfl⟩ := mem_take_ix hz
      have := srt_le hA (show i ≤ q by omega) hqA
      have h3 : ¬ wt y < wt A[q] := fun e => g2 (hr.2 e)
      omega
    · have g2 : r < 0 := by simpa using g2
      refine ⟨⟨rfl, rfl⟩, hin (lo, q) _ _ _ ⟨rfl, rfl, by simp only; omega, by simp only; omega, h1, ?_, h⟩ (by simp only; omega)⟩
      intro z hz
      obtain ⟨i, hi1, hi2, rfl⟩ := mem_drop_ix hz
      have := srt_le hA (show q ≤ i by omega) hi1
      have h3 : wt y < wt A[q] := hr.1 g2
      omega
  · have : lo = hi := by omega
    subst this
    have lT : (A.take lo).length = lo := by rw [List.length_take]; omega
    have lD : (A.drop lo).length = A.length - lo := List.length_drop
    have hu := down.c (P := P ++ A.take lo) (A2 := A.drop lo) (R := S) (y := y) (K := K) (s := s) (F0 := F0) (w0 := w0) (ps := ps) (w := wL) (by
      rw [List.append_assoc P, List.take_append_drop]
      simpa using h) (by rw [List.append_assoc P, List.take_append_drop]; simpa using hlen2) fun w h => hk w (by
        have e := mrg_cut (k := wt) _ (A.take lo) (A.drop lo) [y] [] rfl (by intro a ha b hb; rw [List.mem_singleton.1 hb]; exact h2 a ha) (by simp)
        rw [List.append_nil, List.take_append_drop, mrg_nil', mrg_left (A.take lo) [y] (by intro a ha b hb; rw [List.mem_singleton.1 hb]; have := h1 a ha; omega)] at e
        rw [e]
        simpa using h)
    rw [List.length_append, lT, lD, show P.length + lo + (A.length - lo) = P.length + A.length by omega] at hu
    exact hu

end
end Go.Proofs.Ythdmmmfgjmmelaa

/- Sorting packs: merging in place, the whole. Own work. -/
namespace Go.Proofs.Ythdmmmfgjmmelaa
open Go Go.Proofs
set_option linter.unusedVariables false
set_option linter.unusedSimpArgs false
attribute [local irreducible] apK cpK mkK br

theorem symMerge.c : ∀ (n : Nat) {F0 : List Nat} {w0 w : World} {ps : List As} {s : Sl} {P A B S : List Pk} {K : Ending → World → Prop}, A.length + B.length ≤ n → St F0 w0 w (ownA 2 s (pks (P ++ A ++ B ++ S)) :: ps) → srt wt A → srt wt B → 0 < A.length → 0 < B.length → (P ++ A ++ B ++ S).length ≤ 1000000 →
    (∀ w', St F0 w0 w' (ownA 2 s (pks (P ++ mrg wt A B ++ S)) :: ps) → K (.returned (.tuple ⟨[]⟩)) w') →
    Calls Try.prog 136 ⟨[.slice s.a s.len s.cap, .int .i64 (P.length : Int), .int .i64 ((P.length + A.length : Nat) : Int), .int .i64 ((P.length + A.length + B.length : Nat) : Int), .func (.func 41) ⟨[]⟩ ⟨[]⟩]⟩ w K := by
  intro n
  induction n with
  | zero => intro F0 w0 w ps s P A B S K hn _ _ _ hA0 _ _ _; omega
  | succ n ih =>
    intro F0 w0 w ps s P A B S K hn h hA hB hA0 hB0 hlen2 hk
    have hlen := hlen2
    simp only [List.length_append] at hlen
    refine ret_k (slices_symMergeCmpFunc_limit_pack.ok _ _ _ _ _ _ ?_)
    unfold slices_symMergeCmpFunc_limit_pack slices_symMergeCmpFunc_limit_pack.j14
    refine lt_as (show IntKind.i64.wrap (((P.length + A.length : Nat) : Int) - (P.length : Int)) = (A.length : Int) by rw [wrap_i64 (by omega) (by omega)]; omega) ?_
    refine br_b (fun g => ?_) (fun g => ?_)
    · have g : (A.length : Int) = 1 := by simpa using g
      obtain ⟨x, rfl⟩ : ∃ x, A = [x] := List.length_eq_one_iff.1 (by omega)
      exact symMerge.one h hB hlen2 hk
    have gA : ¬ (A.length : Int) = 1 := by simpa using g
    unfold slices_symMergeCmpFunc_limit_pack.j1 slices_symMergeCmpFunc_limit_pack.j9
    refine lt_as (show IntKind.i64.wrap (((P.length + A.length + B.length : Nat) : Int) - ((P.length + A.length : Nat) : Int)) = (B.length : Int) by rw [wrap_i64 (by omega) (by omega)]; omega) ?_
    refine br_b (fun g => ?_) (fun g => ?_)
    · have g : (B.length : Int) = 1 := by simpa using g
      obtain ⟨y, rfl⟩ : ∃ y, B = [y] := List.length_eq_one_iff.1 (by omega)
      exact symMerge.last h hA hlen2 hk
    have gB : ¬ (B.length : Int) = 1 := by simpa using g
    unfold slices_symMergeCmpFunc_limit_pack.j2
    refine half_i (by omega) ?_
    obtain ⟨md, hmd⟩ : ∃ md, (A.length + B.length) / 2 = md := ⟨_, rfl⟩
    rw [show (P.length + (P.length + A.length + B.length)) / 2 = P.length + md by omega]
    refine lt_as (show IntKind.i64.wrap (((P.length + md : Nat) : Int) + ((P.length + A.length : Nat) : Int)) = ((P.length + md + (P.length + A.length) : Nat) : Int) by rw [wrap_i64 (by omega) (by omega)]; omega) ?_
    -- after the search
    have j6 : ∀ (t : Nat) (w : World), t ≤ A.length → t ≤ md → md - t ≤ B.length → (∀ (h1 : t < A.length) (h2 : 0 < md - t) (h3 : md - t - 1 < B.length), wt B[md - t - 1] < wt A[t]) → (∀ (h1 : 0 < t) (h2 : md - t < B.length) (h3 : t - 1 < A.length), ¬ wt B[md - t] < wt A[t - 1]) → St F0 w0 w (ownA 2 s (pks (P ++ A ++ B ++ S)) :: ps) →
        slices_symMergeCmpFunc_limit_pack.j6 s (P.length : Int) ((P.length + A.length : Nat) : Int) ((P.length + A.length + B.length : Nat) : Int) ((P.length + md : Nat) : Int) ((P.length + md + (P.length + A.length) : Nat) : Int) ((P.length + t : Nat) : Int) (fun v w' => K (.returned v) w') w := by
      intro t w ht1 ht2 ht3 hlt hge h
      have lA1 : (A.take t).length = t := by rw [List.length_take]; omega
      have lA2 : (A.drop t).length = A.length - t := List.length_drop
      have lB1 : (B.take (md - t)).length = md - t := by rw [List.length_take]; omega
      have lB2 : (B.drop (md - t)).length = B.length - (md - t) := List.length_drop
      have c1 : ∀ a ∈ A.drop t, ∀ b ∈ B.take (md - t), wt b < wt a := by
        intro a ha b hb
        obtain ⟨i, hi1, hi2, rfl⟩ := mem_drop_ix ha
        obtain ⟨j, hj1, hj2, rfl⟩ := mem_take_ix hb
        have h1 := hlt (by omega) (by omega) (by omega)
        have h2 := srt_le hA (show t ≤ i by omega) hi1
        have h3 := srt_le hB (show j ≤ md - t - 1 by omega) (by omega)
        omega
      have c2 : ∀ a ∈ A.take t, ∀ b ∈ B.drop (md - t), wt a ≤ wt b := by
        intro a ha b hb
        obtain ⟨i, hi1, hi2, rfl⟩ := mem_take_ix ha
        obtain ⟨j, hj1, hj2, rfl⟩ := mem_drop_ix hb
        have h1 := hge (by omega) (by omega) (by omega)
        have h2 := srt_le hA (show i ≤ t - 1 by omega) (by omega)
        have h3 := srt_le hB (show md - t ≤ j by omega) hj1
        omega
      have hm := mrg_cut (k := wt) _ (A.take t) (A.drop t) (B.take (md - t)) (B.drop (md - t)) rfl c1 c2
      rw [List.take_append_drop, List.take_append_drop] at hm
      rw [hm] at hk
      have hA1 := srt_take hA t
      have hA2 := srt_drop hA t
      have hB1 := srt_take hB (md - t)
      have hB2 := srt_drop hB (md - t)
      have hsA : A = A.take t ++ A.drop t := (List.take_append_drop t A).symm
      have hsB : B = B.take (md - t) ++ B.drop (md - t) := (List.take_append_drop (md - t) B).symm
      have hAl : A.length = (A.take t).length + (A.drop t).length := by rw [lA1, lA2]; omega
      have hBl : B.length = (B.take (md - t)).length + (B.drop (md - t)).length := by rw [lB1, lB2]; omega
      have h : St F0 w0 w (ownA 2 s (pks (P ++ (A.take t ++ A.drop t) ++ (B.take (md - t) ++ B.drop (md - t)) ++ S)) :: ps) := by rw [List.take_append_drop, List.take_append_drop]; exact h
      clear hm c1 c2 hlt hge hsA hsB hA hB
      generalize A.take t = A1 at *
      generalize A.drop t = A2 at *
      generalize B.take (md - t) = B1 at *
      generalize B.drop (md - t) = B2 at *
      have j8 : ∀ (C : List Pk) (w : World), C.length = A1.length + B1.length → C = mrg wt A1 B1 → St F0 w0 w (ownA 2 s (pks (P ++ C ++ A2 ++ B2 ++ S)) :: ps) → slices_symMergeCmpFunc_limit_pack.j8 s ((P.length + A.length + B.length : Nat) : Int) ((P.length + md : Nat) : Int) ((P.length + A.length + (md - t) : Nat) : Int) (fun v w' => K (.returned v) w') w := by
        intro C w hC hCe h
        subst hCe
        have fin : (A2 = [] ∨ B2 = []) → K (.returned (.tuple ⟨[]⟩)) w := by
          intro e
          refine hk w ?_
          have : mrg wt A2 B2 = A2 ++ B2 := by
            rcases e with e | e
            · subst e; rw [mrg_nil]; rfl
            · subst e; rw [mrg_nil', List.append_nil]
          rw [this]
          simp only [List.append_assoc] at h ⊢
          exact h
        unfold slices_symMergeCmpFunc_limit_pack.j8
        refine br_d (fun g1 => ?_) (fun g1 => fin (Or.inl (List.length_eq_zero_iff.1 (by omega))))
        refine br_d (fun g2 => ?_) (fun g2 => fin (Or.inr (List.length_eq_zero_iff.1 (by omega))))
        have hc := ih (P := P ++ mrg wt A1 B1) (A := A2) (B := B2) (S := S) (K := fun e w' => e = .returned (.tuple ⟨[]⟩) ∧ K (.returned (.tuple ⟨[]⟩)) w') (by omega) h hA2 hB2 (by omega) (by omega) (by simp only [List.length_append, hC]; omega) fun w h => ⟨rfl, hk w (by simp only [List.append_assoc] at h ⊢; exact h)⟩
        rw [List.length_append, hC, show P.length + (A1.length + B1.length) = P.length + md by omega, show P.length + md + A2.length = P.length + A.length + (md - t) by omega, show P.length + A.length + (md - t) + B2.length = P.length + A.length + B.length by omega] at hc
        exact hc
      have j7 : ∀ (w : World), St F0 w0 w (ownA 2 s (pks (P ++ A1 ++ B1 ++ (A2 ++ B2 ++ S))) :: ps) → slices_symMergeCmpFunc_limit_pack.j7 s (P.length : Int) ((P.length + A.length + B.length : Nat) : Int) ((P.length + md : Nat) : Int) ((P.length + t : Nat) : Int) ((P.length + A.length + (md - t) : Nat) : Int) (fun v w' => K (.returned v) w') w := by
        intro w h
        have fin : (A1 = [] ∨ B1 = []) → slices_symMergeCmpFunc_limit_pack.j8 s ((P.length + A.length + B.length : Nat) : Int) ((P.length + md : Nat) : Int) ((P.length + A.length + (md - t) : Nat) : Int) (fun v w' => K (.returned v) w') w := by
          intro e
          have : mrg wt A1 B1 = A1 ++ B1 := by
            rcases e with e | e
            · subst e; rw [mrg_nil]; rfl
            · subst e; rw [mrg_nil', List.append_nil]
          refine j8 (A1 ++ B1) w (by rw [List.length_append]) this.symm ?_
          simp only [List.append_assoc] at h ⊢
          exact h
        unfold slices_symMergeCmpFunc_limit_pack.j7
        refine br_d (fun g1 => ?_) (fun g1 => fin (Or.inl (List.length_eq_zero_iff.1 (by omega))))
        refine br_d (fun g2 => ?_) (fun g2 => fin (Or.inr (List.length_eq_zero_iff.1 (by omega))))
        have hc := ih (P := P) (A := A1) (B := B1) (S := A2 ++ B2 ++ S) (K := fun e w' => e = .returned (.tuple ⟨[]⟩) ∧ slices_symMergeCmpFunc_limit_pack.j8 s ((P.length + A.length + B.length : Nat) : Int) ((P.length + md : Nat) : Int) ((P.length + A.length + (md - t) : Nat) : Int) (fun v w' => K (.returned v) w') w') (by omega) h hA1 hB1 (by omega) (by omega) (by simp only [List.length_append]; omega) fun w h => ⟨rfl, j8 _ w (mrg_length _ _ _ rfl) rfl (by simp only [List.append_assoc] at h ⊢; exact h)⟩
        rw [show P.length + A1.length = P.length + t by omega, show P.length + t + B1.length = P.length + md by omega] at hc
        exact hc
      have same : (A2 = [] ∨ B1 = []) → St F0 w0 w (ownA 2 s (pks (P ++ A1 ++ B1 ++ (A2 ++ B2 ++ S))) :: ps) := by
        intro e
        rcases e with e | e
        · subst e
          simp only [List.append_assoc, List.append_nil, List.nil_append] at h ⊢
          exact h
        · subst e
          simp only [List.append_assoc, List.append_nil, List.nil_append] at h ⊢
          exact h
      unfold slices_symMergeCmpFunc_limit_pack.j6
      refine lt_as (show IntKind.i64.wrap (((P.length + md + (P.length + A.length) : Nat) : Int) - ((P.length + t : Nat) : Int)) = ((P.length + A.length + (md - t) : Nat) : Int) by rw [wrap_i64 (by omega) (by omega)]; omega) ?_
      refine br_d (fun g1 => ?_) (fun g1 => j7 w (same (Or.inl (List.length_eq_zero_iff.1 (by omega)))))
      refine br_d (fun g2 => ?_) (fun g2 => j7 w (same (Or.inr (List.length_eq_zero_iff.1 (by omega)))))
      have hc := rotate.c (P := P ++ A1) (A := A2) (B := B1) (S := B2 ++ S) (s := s) (F0 := F0) (w0 := w0) (w := w) (ps := ps) (K := fun e w' => e = .returned (.tuple ⟨[]⟩) ∧ slices_symMergeCmpFunc_limit_pack.j7 s (P.length : Int) ((P.length + A.length + B.length : Nat) : Int) ((P.length + md : Nat) : Int) ((P.length + t : Nat) : Int) ((P.length + A.length + (md - t) : Nat) : Int) (fun v w' => K (.returned v) w') w') (by simp only [List.append_assoc] at h ⊢; exact h) (by omega) (by omega) (by simp only [List.length_append]; omega) fun w h => ⟨rfl, j7 w (by simp only [List.append_assoc] at h ⊢; exact h)⟩
      rw [List.length_append, show P.length + A1.length = P.length + t by omega, show P.length + t + A2.length = P.length + A.length by omega, show P.length + A.length + B1.length = P.length + A.length + (md - t) by omega] at hc
      exact hc
    -- the search
    have j4 : ∀ (lo0 hi0 : Nat), lo0 ≤ hi0 → hi0 ≤ md → hi0 ≤ A.length → md - lo0 ≤ B.length → (hi0 = md ∨ hi0 = A.length) → (lo0 = 0 ∨ md - lo0 = B.length) →
        slices_symMergeCmpFunc_limit_pack.j4 s (P.length : Int) ((P.length + A.length : Nat) : Int) ((P.length + A.length + B.length : Nat) : Int) ((P.length + md : Nat) : Int) ((P.length + md + (P.length + A.length) : Nat) : Int) ((P.length + lo0 : Nat) : Int) ((P.length + hi0 : Nat) : Int) (fun v w' => K (.returned v) w') w := by
      intro lo0 hi0 h1 h2 h3 h4 h5 h6
      unfold slices_symMergeCmpFunc_limit_pack.j4 slices_symMergeCmpFunc_limit_pack.j5
      refine lt_as (show IntKind.i64.wrap (((P.length + md + (P.length + A.length) : Nat) : Int) - 1) = ((P.length + md + (P.length + A.length) - 1 : Nat) : Int) by rw [wrap_i64 (by omega) (by omega)]; omega) ?_
      refine loop2 (fun (a : Nat × Nat) (i j : Int) w' => i = ((P.length + a.1 : Nat) : Int) ∧ j = ((P.length + a.2 : Nat) : Int) ∧ lo0 ≤ a.1 ∧ a.1 ≤ a.2 ∧ a.2 ≤ hi0 ∧ (a.1 = lo0 ∨ ∀ (h2 : md - a.1 < B.length) (h3 : a.1 - 1 < A.length), ¬ wt B[md - a.1] < wt A[a.1 - 1]) ∧ (a.2 = hi0 ∨ ∀ (h2 : md - a.2 - 1 < B.length) (h3 : a.2 < A.length), wt B[md - a.2 - 1] < wt A[a.2]) ∧ St F0 w0 w' (ownA 2 s (pks (P ++ A ++ B ++ S)) :: ps)) (fun a => a.2 - a.1) (lo0, hi0) ⟨rfl, rfl, Nat.le_refl _, h1, Nat.le_refl _, Or.inl rfl, Or.inl rfl, h⟩ ?_
      clear h
      rintro ⟨lo, hi⟩ i j wL I μ ⟨rfl, rfl, hl0, hlh, hh0, hq1, hq2, h⟩ hin
      simp only at hl0 hlh hh0 hq1 hq2 h hin ⊢
      unfold slices_symMergeCmpFunc_limit_pack.b1
      refine br_d (fun g => ?_) (fun g => ?_)
      · refine half_i (by omega) ?_
        obtain ⟨q, hq⟩ : ∃ q, (P.length + lo + (P.length + hi)) / 2 = P.length + q := ⟨(lo + hi) / 2, by omega⟩
        rw [hq]
        have hqA : q < A.length := by omega
        have hqB : md - 1 - q < B.length := by omega
        refine h.drewK fun w h => ?_
        refine lt_as (show IntKind.i64.wrap (((P.length + md + (P.length + A.length) - 1 : Nat) : Int) - ((P.length + q : Nat) : Int)) = ((P.length + A.length + (md - 1 - q) : Nat) : Int) by rw [wrap_i64 (by omega) (by omega)]; omega) ?_
        refine h.lpi (s := s) (P.length + A.length + (md - 1 - q)) rfl (by simp only [List.length_append]; omega) ?_
        rw [getB (P := P) (A := A) (B := B) (S := S) hqB]
        refine h.lpi (s := s) (P.length + q) rfl (by simp only [List.length_append]; omega) ?_
        rw [getA (P := P) (A := A) (B := B) (S := S) hqA]
        refine limit_less.c (x := B[md - 1 - q]) (y := A[q]) h fun r w hr h => ⟨_, rfl, ?_⟩
        refine br_b (fun g2 => ?_) (fun g2 => ?_)
        · have g2 : ¬ r < 0 := by simpa using g2
          refine lt_as (show IntKind.i64.wrap (((P.length + q : Nat) : Int) + 1) = ((P.length + (q + 1) : Nat) : Int) by rw [wrap_i64 (by omega) (by omega)]; omega) ?_
          refine ⟨⟨rfl, rfl, rfl, rfl, rfl, rfl, rfl⟩, hin (q + 1, hi) _ _ _ ⟨rfl, rfl, by simp only; omega, by simp only; omega, hh0, Or.inr fun k1 k2 e => g2 (hr.2 ?_), hq2, h⟩ (by simp only; omega)⟩
          simp only [Nat.add_sub_cancel, show md - (q + 1) = md - 1 - q by omega] at e
          exact e
        · have g2 : r < 0 := by simpa using g2
          refine ⟨⟨rfl, rfl, rfl, rfl, rfl, rfl, rfl⟩, hin (lo, q) _ _ _ ⟨rfl, rfl, hl0, by simp only; omega, by simp only; omega, hq1, Or.inr fun k1 k2 => ?_, h⟩ (by simp only; omega)⟩
          have h3 : wt B[md - 1 - q] < wt A[q] := hr.1 g2
          simp only [show md - q - 1 = md - 1 - q by omega]
          exact h3
      · have : lo = hi := by omega
        subst this
        refine j6 lo wL (by omega) (by omega) (by omega) (fun k1 k2 k3 => ?_) (fun k1 k2 k3 => ?_) h
        · rcases hq2 with e | e
          · exfalso; omega
          · exact e k3 k1
        · rcases hq1 with e | e
          · exfalso; omega
          · exact e k2 k3
    unfold slices_symMergeCmpFunc_limit_pack.j3
    refine br_d (fun g => ?_) (fun g => ?_)
    · refine lt_as (show IntKind.i64.wrap (((P.length + md + (P.length + A.length) : Nat) : Int) - ((P.length + A.length + B.length : Nat) : Int)) = ((P.length + (md - B.length) : Nat) : Int) by rw [wrap_i64 (by omega) (by omega)]; omega) ?_
      exact j4 (md - B.length) md (by omega) (by omega) (by omega) (by omega) (Or.inl rfl) (Or.inr (by omega))
    · have := j4 0 A.length (by omega) (by omega) (by omega) (by omega) (Or.inr rfl) (Or.inl rfl)
      exact this

end Go.Proofs.Ythdmmmfgjmmelaa

/- Sorting packs: the stable sort. Own work. -/
namespace Go.Proofs.Ythdmmmfgjmmelaa
open Go Go.Proofs
set_option linter.unusedVariables false
set_option linter.unusedSimpArgs false
attribute [local irreducible] apK cpK mkK br

def sb (c : Nat) (l : List Pk) : List Pk := bsort wt c l.length l
theorem bsort_fuel {c : Nat} (hc : 0 < c) : ∀ (f g : Nat) (l : List Pk), l.length ≤ f → l.length ≤ g → bsort wt c f l = bsort wt c g l := by
  intro f
  induction f with
  | zero =>
    intro g l h1 h2
    cases g with
    | zero => rfl
    | succ g => rw [bsort, bsort, if_pos (by omega)]
  | succ f ih =>
    intro g l h1 h2
    cases g with
    | zero => rw [bsort, bsort, if_pos (by omega)]
    | succ g =>
      rw [bsort, bsort]
      split
      · rfl
      · rw [ih g (l.drop c) (by rw [List.length_drop]; omega) (by rw [List.length_drop]; omega)]
theorem sb_le {c : Nat} {l : List Pk} (h : l.length ≤ c) : sb c l = ssort wt l := by
  unfold sb
  cases hl : l.length with
  | zero => rfl
  | succ f => rw [bsort, if_pos h]
theorem sb_cut {c : Nat} {l : List Pk} (hc : 0 < c) (h : c ≤ l.length) : sb c l = ssort wt (l.take c) ++ sb c (l.drop c) := by
  rcases Nat.eq_or_lt_of_le h with e | e
  · have h2 : l.drop c = [] := List.drop_of_length_le (by omega)
    rw [sb_le (by omega), h2, List.take_of_length_le (by omega), sb_le (by simp)]
    exact (List.append_nil _).symm
  · unfold sb
    cases hl : l.length with
    | zero => omega
    | succ f =>
      rw [bsort, if_neg (by omega), bsort_fuel hc f (l.drop c).length _ (by rw [List.length_drop]; omega) (Nat.le_refl _)]

section
variable {F0 : List Nat} {w0 w : World} {ps rest : List As} {s : Sl}

theorem stable.c {L : List Pk} {K : Ending → World → Prop} (h : St F0 w0 w (ownA 2 s (pks L) :: ps)) (hlen : L.length ≤ 1000000)
    (hk : ∀ w', St F0 w0 w' (ownA 2 s (pks (ssort wt L)) :: ps) → K (.returned (.tuple ⟨[]⟩)) w') :
    Calls Try.prog 89 ⟨[.slice s.a s.len s.cap, .int .i64 (L.length : Int), .func (.func 41) ⟨[]⟩ ⟨[]⟩]⟩ w K := by
  refine ret_k (slices_stableCmpFunc_limit_pack.ok _ _ _ _ ?_)
  unfold slices_stableCmpFunc_limit_pack slices_stableCmpFunc_limit_pack.j1
  -- merging
  have j3 : ∀ w, St F0 w0 w (ownA 2 s (pks (sb 20 L)) :: ps) → slices_stableCmpFunc_limit_pack.j3 s (L.length : Int) 20 (fun v w' => K (.returned v) w') w := by
    intro w h
    unfold slices_stableCmpFunc_limit_pack.j3
    refine loop1 (fun (c : Nat) (b : Int) w' => b = (c : Int) ∧ 0 < c ∧ c ≤ 2000000 ∧ St F0 w0 w' (ownA 2 s (pks (sb c L)) :: ps)) (fun c => L.length - c) 20 ⟨rfl, by decide, by decide, h⟩ ?_
    clear h
    rintro c b wL I μ ⟨rfl, hc0, hc1, h⟩ hin
    unfold slices_stableCmpFunc_limit_pack.b1
    refine br_d (fun g => ?_) (fun g => ?_)
    · unfold slices_stableCmpFunc_limit_pack.j4 slices_stableCmpFunc_limit_pack.j5
      refine lt_as (show IntKind.i64.wrap (2 * (c : Int)) = ((0 + 2 * c : Nat) : Int) by rw [wrap_i64 (by omega) (by omega)]; omega) ?_
      refine loop2 (fun (a : List Pk × List Pk) (x y : Int) w' => x = (a.1.length : Int) ∧ y = ((a.1.length + 2 * c : Nat) : Int) ∧ a.1.length + a.2.length = L.length ∧ a.1 ++ sb (2 * c) a.2 = sb (2 * c) L ∧ St F0 w0 w' (ownA 2 s (pks (a.1 ++ sb c a.2)) :: ps)) (fun a => a.2.length) ([], L) ⟨rfl, by simp, by simp, rfl, h⟩ ?_
      clear h
      rintro ⟨R, Y⟩ x y w2 I2 μ2 ⟨rfl, rfl, hl, hT, h⟩ hin2
      simp only at hl hT h hin2 ⊢
      unfold slices_stableCmpFunc_limit_pack.b2
      refine br_d (fun g2 => ?_) (fun g2 => ?_)
      · have hY : 2 * c ≤ Y.length := by omega
        have l1 : (Y.take c).length = c := by rw [List.length_take]; omega
        have l2 : ((Y.drop c).take c).length = c := by rw [List.length_take, List.length_drop]; omega
        have e1 : sb c Y = ssort wt (Y.take c) ++ (ssort wt ((Y.drop c).take c) ++ sb c (Y.drop (2 * c))) := by
          rw [sb_cut hc0 (by omega), sb_cut hc0 (l := Y.drop c) (by rw [List.length_drop]; omega), List.drop_drop, show c + c = 2 * c by omega]
        have e2 : mrg wt (ssort wt (Y.take c)) (ssort wt ((Y.drop c).take c)) = ssort wt (Y.take (2 * c)) := by
          rw [← ssort_append]
          congr 1
          rw [show 2 * c = c + c by omega, List.take_add]
        rw [e1] at h
        refine lt_as (show IntKind.i64.wrap ((R.length : Int) + (c : Int)) = ((R.length + c : Nat) : Int) by rw [wrap_i64 (by omega) (by omega)]; omega) ?_
        have hS : (sb c (Y.drop (2 * c))).length ≤ 1000000 → True := fun _ => trivial
        have hlT : (R ++ ssort wt (Y.take c) ++ ssort wt ((Y.drop c).take c) ++ sb c (Y.drop (2 * c))).length = L.length := by
          have hsl : ∀ (f : Nat) (l : List Pk), (bsort wt c f l).length = l.length := by
            intro f
            induction f with
            | zero => intro l; exact ssort_length l
            | succ f ih =>
              intro l
              rw [bsort]
              split
              · exact ssort_length l
              · rw [List.length_append, ssort_length, ih, List.length_take, List.length_drop]; omega
          simp only [List.length_append, ssort_length, l1, l2]
          unfold sb
          rw [hsl, List.length_drop]; omega
        have hc := symMerge.c _ (P := R) (A := ssort wt (Y.take c)) (B := ssort wt ((Y.drop c).take c)) (S := sb c (Y.drop (2 * c))) (s := s) (F0 := F0) (w0 := w0) (w := w2) (ps := ps)
          (K := fun e w' => e = .returned (.tuple ⟨[]⟩) ∧ lt (IntKind.i64.wrap (2 * (c : Int))) fun x9 => lt (IntKind.i64.wrap (((R.length + 2 * c : Nat) : Int) + x9)) fun x10 => ((s = s ∧ (L.length : Int) = (L.length : Int) ∧ (c : Int) = (c : Int)) ∧ I2 ((R.length + 2 * c : Nat) : Int) x10 w' ∧ μ2 ((R.length + 2 * c : Nat) : Int) x10 w' < μ2 (R.length : Int) ((R.length + 2 * c : Nat) : Int) w2)) (Nat.le_refl _) (by simp only [List.append_assoc] at h ⊢; exact h) (ssort_srt _) (ssort_srt _) (by rw [ssort_length]; omega) (by rw [ssort_length]; omega) (by rw [hlT]; exact hlen) fun w h => ⟨rfl, ?_⟩
        · rw [ssort_length, ssort_length, l1, l2, show R.length + c + c = R.length + 2 * c by omega] at hc
          exact hc
        · have lR : (R ++ ssort wt (Y.take (2 * c))).length = R.length + 2 * c := by rw [List.length_append, ssort_length, List.length_take]; omega
          refine lt_as (wrap_i64 (by omega) (by omega)) ?_
          refine lt_as (wrap_i64 (by omega) (by omega)) ?_
          refine ⟨⟨rfl, rfl, rfl⟩, hin2 (R ++ ssort wt (Y.take (2 * c)), Y.drop (2 * c)) _ _ _ ⟨by rw [lR], by rw [lR]; omega, by rw [lR, List.length_drop]; omega, ?_, by rw [← e2]; exact h⟩ (by rw [List.length_drop]; omega)⟩
          rw [← hT, sb_cut (by omega) hY, List.append_assoc]
      · have hY : Y.length < 2 * c := by omega
        have nx : ∀ w, St F0 w0 w (ownA 2 s (pks (R ++ ssort wt Y)) :: ps) → lt (IntKind.i64.wrap ((c : Int) * 2)) fun x4 => ((s = s ∧ (L.length : Int) = (L.length : Int)) ∧ I x4 w ∧ μ x4 w < μ (c : Int) wL) := by
          intro w h
          refine lt_as (show IntKind.i64.wrap ((c : Int) * 2) = ((2 * c : Nat) : Int) by rw [wrap_i64 (by omega) (by omega)]; omega) ?_
          refine ⟨⟨rfl, rfl⟩, hin (2 * c) _ _ ⟨rfl, by omega, by omega, ?_⟩ (by omega)⟩
          rw [← hT, sb_le (by omega)]
          exact h
        unfold slices_stableCmpFunc_limit_pack.j6
        refine lt_as (show IntKind.i64.wrap ((R.length : Int) + (c : Int)) = ((R.length + c : Nat) : Int) by rw [wrap_i64 (by omega) (by omega)]; omega) ?_
        refine br_d (fun g3 => ?_) (fun g3 => ?_)
        · have l1 : (Y.take c).length = c := by rw [List.length_take]; omega
          have l2 : (Y.drop c).length = Y.length - c := List.length_drop
          rw [sb_cut hc0 (by omega), sb_le (l := Y.drop c) (by omega)] at h
          have e2 : mrg wt (ssort wt (Y.take c)) (ssort wt (Y.drop c)) = ssort wt Y := by rw [← ssort_append, List.take_append_drop]
          have hc := symMerge.c _ (P := R) (A := ssort wt (Y.take c)) (B := ssort wt (Y.drop c)) (S := []) (s := s) (F0 := F0) (w0 := w0) (w := w2) (ps := ps)
            (K := fun e w' => e = .returned (.tuple ⟨[]⟩) ∧ lt (IntKind.i64.wrap ((c : Int) * 2)) fun x4 => ((s = s ∧ (L.length : Int) = (L.length : Int)) ∧ I x4 w' ∧ μ x4 w' < μ (c : Int) wL)) (Nat.le_refl _) (by simp only [List.append_assoc, List.append_nil] at h ⊢; exact h) (ssort_srt _) (ssort_srt _) (by rw [ssort_length]; omega) (by rw [ssort_length]; omega) (by simp only [List.length_append, ssort_length, List.length_nil]; omega) fun w h => ⟨rfl, nx w (by rw [e2, List.append_nil] at h; exact h)⟩
          rw [ssort_length, ssort_length, l1, l2, show R.length + c + (Y.length - c) = L.length by omega] at hc
          exact hc
        · rw [sb_le (by omega)] at h
          exact nx w2 h
    · refine hk wL ?_
      rw [sb_le (by omega)] at h
      exact h
  refine loop2 (fun (a : List Pk × List Pk) (x y : Int) w' => x = (a.1.length : Int) ∧ y = ((a.1.length + 20 : Nat) : Int) ∧ a.1.length + a.2.length = L.length ∧ a.1 ++ sb 20 a.2 = sb 20 L ∧ St F0 w0 w' (ownA 2 s (pks (a.1 ++ a.2)) :: ps)) (fun a => a.2.length) ([], L) ⟨rfl, rfl, by simp, rfl, h⟩ ?_
  clear h
  rintro ⟨R, Y⟩ x y w2 I2 μ2 ⟨rfl, rfl, hl, hT, h⟩ hin2
  simp only at hl hT h hin2 ⊢
  unfold slices_stableCmpFunc_limit_pack.b3
  refine br_d (fun g2 => ?_) (fun g2 => ?_)
  · have hY : 20 ≤ Y.length := by omega
    have l1 : (Y.take 20).length = 20 := by rw [List.length_take]; omega
    have l2 : (Y.drop 20).length = Y.length - 20 := List.length_drop
    have hc := insertion.c (P := R) (X := Y.take 20) (S := Y.drop 20) (s := s) (F0 := F0) (w0 := w0) (w := w2) (ps := ps)
      (K := fun e w' => e = .returned (.tuple ⟨[]⟩) ∧ lt (IntKind.i64.wrap (((R.length + 20 : Nat) : Int) + 20)) fun x16 => ((s = s ∧ (L.length : Int) = (L.length : Int) ∧ (20 : Int) = 20) ∧ I2 ((R.length + 20 : Nat) : Int) x16 w' ∧ μ2 ((R.length + 20 : Nat) : Int) x16 w' < μ2 (R.length : Int) ((R.length + 20 : Nat) : Int) w2)) (by rw [List.append_assoc, List.take_append_drop]; exact h) (by simp only [List.length_append, l1, l2]; omega) fun w h => ⟨rfl, ?_⟩
    · rw [l1] at hc
      exact hc
    · have lR : (R ++ ssort wt (Y.take 20)).length = R.length + 20 := by rw [List.length_append, ssort_length, l1]
      refine lt_as (wrap_i64 (by omega) (by omega)) ?_
      refine ⟨⟨rfl, rfl, rfl⟩, hin2 (R ++ ssort wt (Y.take 20), Y.drop 20) _ _ _ ⟨by rw [lR], by rw [lR]; omega, by rw [lR, l2]; omega, ?_, h⟩ (by rw [l2]; omega)⟩
      rw [← hT, sb_cut (by decide) hY, List.append_assoc]
  · unfold slices_stableCmpFunc_limit_pack.j2
    have hc := insertion.c (P := R) (X := Y) (S := []) (s := s) (F0 := F0) (w0 := w0) (w := w2) (ps := ps)
      (K := fun e w' => e = .returned (.tuple ⟨[]⟩) ∧ slices_stableCmpFunc_limit_pack.j3 s (L.length : Int) 20 (fun v w' => K (.returned v) w') w') (by rw [List.append_nil]; exact h) (by simp only [List.length_append, List.length_nil]; omega) fun w h => ⟨rfl, j3 w (by rw [← hT, sb_le (by omega)]; rw [List.append_nil] at h; exact h)⟩
    rw [hl] at hc
    exact hc

theorem SortStable.c {L : List Pk} {K : Ending → World → Prop} (h : St F0 w0 w ps) [PkO s ps 2 (pks L) rest] (hlen : L.length ≤ 1000000)
    (hk : ∀ w', St F0 w0 w' (ownA 2 s (pks (ssort wt L)) :: rest) → K (.returned (.tuple ⟨[]⟩)) w') :
    Calls Try.prog 40 ⟨[.slice s.a s.len s.cap, .func (.func 41) ⟨[]⟩ ⟨[]⟩]⟩ w K := by
  have h := h.toO s
  have hl := h.len
  rw [pks_length] at hl
  refine ret_k (slices_SortStableFunc_limit_pack.ok _ _ _ ?_)
  unfold slices_SortStableFunc_limit_pack
  have hc := stable.c (K := fun e w' => e = .returned (.tuple ⟨[]⟩) ∧ K (.returned (.tuple ⟨[]⟩)) w') h hlen fun w h => ⟨rfl, hk w h⟩
  rw [show L.length = s.len by omega] at hc
  exact hc

end
end Go.Proofs.Ythdmmmfgjmmelaa

