/- Several texts as one. Own work. -/
import Derived.Test.YthdmmmfgjmmelaaSrtX
import Derived.Test.YthdmmmfgjmmelaaLst
import Derived.Test.YthdmmmfgjmmelaaGLim
import Derived.Test.YthdmmmfgjmmelaaGLimR
import Derived.Test.YthdmmmfgjmmelaaLzM
import Derived.Test.YthdmmmfgjmmelaaRec
import Derived.Test.YthdmmmfgjmmelaaOpn
import Derived.Test.YthdmmmfgjmmelaaGLimH
import Derived.Test.YthdmmmfgjmmelaaGLimL
import Derived.Test.YthdmmmfgjmmelaaHuffF
/- Best codes: bad counts, what comes. Own work. -/
namespace Go.Proofs.Ythdmmmfgjmmelaa
open Go Go.Proofs
set_option linter.unusedVariables false
set_option linter.unusedSimpArgs false
attribute [local irreducible] apK cpK mkK br

def badN (n : Int) : Prop := n < 0 ∨ 16777216 < n
instance (n : Int) : Decidable (badN n) := inferInstanceAs (Decidable (_ ∨ _))
/-- the symbols that come, from place i on -/
def comeL (xs : List Int) : List Nat := (List.range xs.length).filter fun i => 0 < xs.getD i 0

section
variable {F0 : List Nat} {w0 w : World} {ps rest : List As} {s : Sl} {xs : List Int}

theorem limit_bad1.c {n : Int} {K : Ending → World → Prop} (hk : K (.returned (.bool (decide (badN n)))) w) : Calls Try.prog 87 ⟨[.int .i64 n]⟩ w K := by
  refine ret_k (limit_bad_1.ok _ _ _ ?_)
  unfold limit_bad_1
  refine br_d (fun g => ?_) (fun g => ?_)
  · rw [decide_eq_true (show badN n from Or.inl g)] at hk
    exact hk
  · rw [show decide (badN n) = decide (n > 16777216) from decide_eq_decide.2 ⟨fun e => by rcases e with e | e; omega; exact e, fun e => Or.inr e⟩] at hk
    exact hk

theorem limit_bad.c {K : Ending → World → Prop} (h : St F0 w0 w ps) [Rdb F0 w0 s ps 1 (ivs .i64 xs)]
    (hk : ∀ (b : Bool) w', (b = false → xs.length ≤ 288 ∧ ∀ x ∈ xs, ¬ badN x) → (b = true → 288 < xs.length ∨ ∃ x ∈ xs, badN x) → St F0 w0 w' ps → K (.returned (.bool b)) w') : Calls Try.prog 36 ⟨[.slice s.a s.len s.cap]⟩ w K := by
  have hl := (h.rdb s).1
  rw [ivs_length] at hl
  refine ret_k (limit_bad.ok _ _ _ ?_)
  unfold limit_bad
  refine br_d (fun g => ?_) (fun g => ?_)
  · exact hk true w (fun e => by cases e) (fun _ => Or.inl (by omega)) h
  refine ret_k (slices_ContainsFunc_int.ok _ _ _ ?_)
  unfold slices_ContainsFunc_int
  refine ret_k (slices_IndexFunc_int.ok _ _ _ ?_)
  unfold slices_IndexFunc_int slices_IndexFunc_int.j1 slices_IndexFunc_int.j3
  refine loop1 (fun (i : Nat) (i' : Int) w' => i' = i ∧ i ≤ xs.length ∧ (∀ j, j < i → ¬ badN (xs.getD j 0)) ∧ St F0 w0 w' ps) (fun i => xs.length - i) 0 ⟨rfl, by omega, fun j hj => by omega, h⟩ ?_
  clear h
  rintro i i' wL I μ ⟨rfl, hi, hb, h⟩ hin
  unfold slices_IndexFunc_int.b1
  refine br_d (fun g1 => ?_) (fun g1 => ?_)
  · have hix : i < xs.length := by omega
    refine h.lx (s := s) i rfl hix ?_
    refine limit_bad1.c ⟨_, rfl, ?_⟩
    refine br_d (fun g2 => ?_) (fun g2 => ?_)
    · refine ⟨_, rfl, ?_⟩
      rw [decide_eq_true (show ((i : Nat) : Int) ≥ 0 by omega)]
      refine ⟨_, rfl, hk true wL (fun e => by cases e) (fun _ => Or.inr ⟨xs[i], List.getElem_mem hix, ?_⟩) h⟩
      rw [List.getD, List.getElem?_eq_getElem hix] at g2
      exact g2
    · refine lt_as (wrap_i64 (by omega) (by omega)) ?_
      refine ⟨⟨rfl, rfl⟩, hin (i + 1) _ _ ⟨by omega, by omega, ?_, h⟩ (by omega)⟩
      intro j hj
      rcases Nat.lt_or_ge j i with h1 | h1
      · exact hb j h1
      · rw [show j = i by omega]; exact g2
  · unfold slices_IndexFunc_int.j2
    refine ⟨_, rfl, ?_⟩
    rw [decide_eq_false (show ¬ (-1 : Int) ≥ 0 by decide)]
    refine ⟨_, rfl, hk false wL (fun _ => ⟨by omega, fun x hx => ?_⟩) (fun e => by cases e) h⟩
    obtain ⟨j, hj, rfl⟩ := List.mem_iff_getElem.1 hx
    have := hb j (by omega)
    rw [List.getD, List.getElem?_eq_getElem hj] at this
    exact this

theorem limit_come.c {K : Ending → World → Prop} (h : St F0 w0 w ps) [Rdb F0 w0 s ps 1 (ivs .i64 xs)] (hlen : xs.length ≤ 1000000)
    (hk : ∀ t w', t.len = (comeL xs).length → St F0 w0 w' (ownA 1 t (ivs .i64 ((comeL xs).map fun (i : Nat) => (i : Int))) :: ps) → K (.returned (.slice t.a t.len t.cap)) w') : Calls Try.prog 37 ⟨[.slice s.a s.len s.cap]⟩ w K := by
  have hl := (h.rdb s).1
  rw [ivs_length] at hl
  refine ret_k (limit_come.ok _ _ _ ?_)
  unfold limit_come limit_come.j1 limit_come.j3
  have cl : ∀ i, ((List.range i).filter fun i => decide (0 < xs.getD i 0)).length ≤ i := fun i => Nat.le_trans (List.length_filter_le _ _) (by simp)
  refine loop2 (fun (i : Nat) (o : Sl) (i' : Int) w' => i' = i ∧ i ≤ xs.length ∧ St F0 w0 w' (ownA 1 o (ivs .i64 (((List.range i).filter fun i => decide (0 < xs.getD i 0)).map fun (i : Nat) => (i : Int))) :: ps)) (fun i => xs.length - i) 0 ⟨rfl, by omega, h.nil 1⟩ ?_
  clear h
  rintro i o i' wL I μ ⟨rfl, hi, h⟩ hin
  unfold limit_come.b1
  refine br_d (fun g1 => ?_) (fun g1 => ?_)
  · have hix : i < xs.length := by omega
    refine h.lx (s := s) i rfl hix ?_
    have hcl := cl i
    refine br_d (fun g2 => ?_) (fun g2 => ?_)
    · refine h.pushI (s := o) (by rw [List.length_map]; omega) fun o2 w h => ?_
      refine lt_as (wrap_i64 (by omega) (by omega)) ?_
      refine ⟨⟨rfl, rfl⟩, hin (i + 1) _ _ _ ⟨by omega, by omega, ?_⟩ (by omega)⟩
      rw [List.range_succ, List.filter_append, List.map_append]
      rw [show ([i].filter fun i => decide (0 < xs.getD i 0)) = [i] by simp only [List.filter_cons, List.filter_nil]; rw [if_pos (decide_eq_true g2)]]
      exact h
    · refine lt_as (wrap_i64 (by omega) (by omega)) ?_
      refine ⟨⟨rfl, rfl⟩, hin (i + 1) _ _ _ ⟨by omega, by omega, ?_⟩ (by omega)⟩
      rw [List.range_succ, List.filter_append, List.map_append]
      rw [show ([i].filter fun i => decide (0 < xs.getD i 0)) = [] by simp only [List.filter_cons, List.filter_nil]; rw [if_neg (by simpa using g2)]]
      rw [List.map_nil, List.append_nil]
      exact h
  · have : i = xs.length := by omega
    subst this
    unfold limit_come.j2
    have hol := h.len
    rw [ivs_length, List.length_map] at hol
    refine hk o wL ?_ h
    unfold comeL
    omega
end
end Go.Proofs.Ythdmmmfgjmmelaa

/- Best codes: the document's rows. Own work. -/
namespace Go.Proofs.Ythdmmmfgjmmelaa
open Go Go.Proofs
set_option linter.unusedVariables false
set_option linter.unusedSimpArgs false
attribute [local irreducible] apK cpK mkK br

def idI (x : Int) : Int := x
theorem insR_first {n : Int} : ∀ {l : List Int} {k : Nat}, k ≤ l.length → (∀ j, j < k → l.getD j 0 ≤ n) → (k < l.length → n < l.getD k 0) → insR idI n l = l.take k ++ n :: l.drop k := by
  intro l
  induction l with
  | nil => intro k hk _ _; simp at hk; subst hk; rfl
  | cons y l ih =>
    intro k hk h1 h2
    cases k with
    | zero =>
      have := h2 (by simp)
      simp at this
      rw [insR, if_pos (show idI n < idI y from this)]; rfl
    | succ k =>
      have := h1 0 (by omega)
      simp at this
      rw [insR, if_neg (by unfold idI; omega), ih (k := k) (by simpa using hk) (fun j hj => by have := h1 (j + 1) (by omega); simpa using this) (fun hk2 => by have := h2 (by simpa using hk2); simpa using this)]
      rfl

section
variable {F0 : List Nat} {w0 w : World} {ps rest : List As} {s : Sl} {l : List Int}

theorem troveref6_put.c {n : Int} {K : Ending → World → Prop} (h : St F0 w0 w ps) [Rdb F0 w0 s ps 1 (ivs .i64 l)] (hc : s.len ≤ s.cap) (hlen : l.length ≤ 1000000)
    (hk : ∀ t w', t.len = l.length + 1 → St F0 w0 w' (ownA 1 t (ivs .i64 (insR idI n l)) :: ps) → K (.returned (.slice t.a t.len t.cap)) w') : Calls Try.prog 46 ⟨[.slice s.a s.len s.cap, .int .i64 n]⟩ w K := by
  have hl := (h.rdb s).1
  rw [ivs_length] at hl
  refine ret_k (troveref6_put.ok _ _ _ _ ?_)
  unfold troveref6_put troveref6_put.j1
  refine loop1 (fun (k : Nat) (k' : Int) w' => k' = k ∧ k ≤ l.length ∧ (∀ j, j < k → l.getD j 0 ≤ n) ∧ St F0 w0 w' ps) (fun k => l.length - k) 0 ⟨rfl, by omega, fun j hj => by omega, h⟩ ?_
  clear h
  rintro k k' wL I μ ⟨rfl, hkl, hb, h⟩ hin
  have j2 : (k < l.length → n < l.getD k 0) → troveref6_put.j2 s n (k : Int) (fun v w' => K (.returned v) w') wL := by
    intro hb2
    unfold troveref6_put.j2
    refine h.new fun nb w h => ?_
    have h : St F0 w0 w (blkA nb [] :: ps) := h
    have h := h.own0
    refine bd_i (n := k) rfl (by omega) (lt_i ?_)
    haveI := h.cutR s 0 k (s.cap - 0) (ys := l.take k) (by omega) (by omega) hc (by rw [List.drop_zero, Nat.sub_zero])
    refine h.appI (s := ⟨some ⟨nb, 0, none⟩, 0, 0⟩) (zs := []) (s2 := ⟨cutA s.a s.cap 0 1, k - 0, s.cap - 0⟩) (k := .i64) (by simp; omega) fun s1 w h => ?_
    rw [List.nil_append] at h
    refine h.pushI (s := s1) (by rw [List.length_take]; omega) fun s2 w h => ?_
    refine bd_i (n := k) rfl (by omega) (lt_i ?_)
    haveI := h.cutR s k s.len (s.cap - k) (ys := l.drop k) (by omega) (by omega) hc (by rw [List.take_of_length_le (by rw [List.length_drop]; omega)])
    refine h.appI (s := s2) (s2 := ⟨cutA s.a s.cap k 1, s.len - k, s.cap - k⟩) (by simp only [List.length_append, List.length_take, List.length_drop, List.length_singleton]; omega) fun s3 w h => ?_
    have hl3 := h.len
    rw [ivs_length, List.length_append, List.length_append, List.length_take, List.length_drop, List.length_singleton] at hl3
    refine hk s3 w (by omega) ?_
    rw [insR_first hkl hb hb2]
    rw [List.append_assoc, List.singleton_append] at h
    exact h
  unfold troveref6_put.b1
  refine br_d (fun g1 => ?_) (fun g1 => j2 (fun e => by omega))
  refine h.lx (s := s) k rfl (by omega) ?_
  refine br_d (fun g2 => ?_) (fun g2 => j2 (fun _ => by omega))
  refine lt_as (wrap_i64 (by omega) (by omega)) ?_
  refine ⟨⟨rfl, rfl⟩, hin (k + 1) _ _ ⟨by omega, by omega, ?_, h⟩ (by omega)⟩
  intro j hj
  rcases Nat.lt_or_ge j k with h1 | h1
  · exact hb j h1
  · rw [show j = k by omega]; exact g2

theorem troveref6_Check.c {xs : List Int} {K : Ending → World → Prop} (h : St F0 w0 w ps) [Rdb F0 w0 s ps 1 (ivs .i64 xs)]
    (hk : ∀ (e : Int) w', ((xs.length ≤ 288 ∧ ∀ x ∈ xs, ¬ badN x) → e = 0) → ((288 < xs.length ∨ ∃ x ∈ xs, badN x) → e = 1) → St F0 w0 w' ps → K (.returned (.int .i64 e)) w') : Calls Try.prog 43 ⟨[.slice s.a s.len s.cap]⟩ w K := by
  have hl := (h.rdb s).1
  rw [ivs_length] at hl
  refine ret_k (troveref6_Check.ok _ _ _ ?_)
  unfold troveref6_Check
  refine br_d (fun g => hk 1 w (fun e => by omega) (fun _ => rfl) h) (fun g => ?_)
  unfold troveref6_Check.j1 troveref6_Check.j3
  refine loop1 (fun (i : Nat) (i' : Int) w' => i' = i ∧ i ≤ xs.length ∧ (∀ j, j < i → ¬ badN (xs.getD j 0)) ∧ St F0 w0 w' ps) (fun i => xs.length - i) 0 ⟨rfl, by omega, fun j hj => by omega, h⟩ ?_
  clear h
  rintro i i' wL I μ ⟨rfl, hi, hb, h⟩ hin
  unfold troveref6_Check.b1
  have yes : ∀ (hix : i < xs.length), badN (xs.getD i 0) → K (.returned (.int .i64 1)) wL := by
    intro hix e
    rw [List.getD, List.getElem?_eq_getElem hix] at e
    exact hk 1 wL (fun k => absurd e (k.2 _ (List.getElem_mem hix))) (fun _ => rfl) h
  refine br_d (fun g1 => ?_) (fun g1 => ?_)
  · have hix : i < xs.length := by omega
    refine h.lx (s := s) i rfl hix ?_
    refine br_d (fun g2 => yes hix (Or.inl g2)) (fun g2 => ?_)
    refine h.lx (s := s) i rfl hix ?_
    refine br_d (fun g3 => yes hix (Or.inr g3)) (fun g3 => ?_)
    refine lt_as (wrap_i64 (by omega) (by omega)) ?_
    refine ⟨rfl, hin (i + 1) _ _ ⟨by omega, by omega, ?_, h⟩ (by omega)⟩
    intro j hj
    rcases Nat.lt_or_ge j i with h1 | h1
    · exact hb j h1
    · rw [show j = i by omega]; rintro (e | e) <;> omega
  · unfold troveref6_Check.j2
    refine hk 0 wL (fun _ => rfl) (fun e => ?_) h
    exfalso
    rcases e with e | ⟨x, hx, e⟩
    · omega
    · obtain ⟨j, hj, rfl⟩ := List.mem_iff_getElem.1 hx
      have := hb j (by omega)
      rw [List.getD, List.getElem?_eq_getElem hj] at this
      exact this e

theorem troveref6_some.c {xs : List Int} {K : Ending → World → Prop} (h : St F0 w0 w ps) [Rdb F0 w0 s ps 1 (ivs .i64 xs)] (hlen : xs.length ≤ 100000)
    (hk : ∀ t w', t.len = (xs.filter (0 < ·)).length → t.len ≤ t.cap → St F0 w0 w' (ownA 1 t (ivs .i64 (ssort idI (xs.filter (0 < ·)))) :: ps) → K (.returned (.slice t.a t.len t.cap)) w') : Calls Try.prog 44 ⟨[.slice s.a s.len s.cap]⟩ w K := by
  have hl := (h.rdb s).1
  rw [ivs_length] at hl
  refine ret_k (troveref6_some.ok _ _ _ ?_)
  unfold troveref6_some troveref6_some.j1 troveref6_some.j3
  refine loop2 (fun (i : Nat) (o : Sl) (i' : Int) w' => i' = i ∧ i ≤ xs.length ∧ St F0 w0 w' (ownA 1 o (ivs .i64 (ssort idI ((xs.take i).filter (0 < ·)))) :: ps)) (fun i => xs.length - i) 0 ⟨rfl, by omega, h.nil 1⟩ ?_
  clear h
  rintro i o i' wL I μ ⟨rfl, hi, h⟩ hin
  unfold troveref6_some.b1
  have hcl : (ssort idI ((xs.take i).filter (0 < ·))).length ≤ i := by
    rw [ssort_length]
    exact Nat.le_trans (List.length_filter_le _ _) (by rw [List.length_take]; omega)
  refine br_d (fun g1 => ?_) (fun g1 => ?_)
  · have hix : i < xs.length := by omega
    have hnx : (xs.take (i + 1)).filter (0 < ·) = (xs.take i).filter (0 < ·) ++ (if 0 < xs.getD i 0 then [xs.getD i 0] else []) := by
      rw [take_next hix, List.filter_append]
      congr 1
      by_cases h0 : 0 < xs.getD i 0
      · rw [if_pos h0, List.filter_cons, if_pos (decide_eq_true h0)]; rfl
      · rw [if_neg h0, List.filter_cons, if_neg (by simpa using h0)]; rfl
    refine h.lx (s := s) i rfl hix ?_
    refine br_d (fun g2 => ?_) (fun g2 => ?_)
    · refine h.lx (s := s) i rfl hix ?_
      have hcap := h.cap (by decide)
      refine troveref6_put.c (s := o) h hcap (by omega) fun t w ht h => ⟨t, rfl, ?_⟩
      refine lt_as (wrap_i64 (by omega) (by omega)) ?_
      refine ⟨rfl, hin (i + 1) _ _ _ ⟨by omega, by omega, ?_⟩ (by omega)⟩
      rw [hnx, if_pos g2, ssort_snoc]
      exact h.tail fun _ _ _ h => h.drop
    · refine lt_as (wrap_i64 (by omega) (by omega)) ?_
      refine ⟨rfl, hin (i + 1) _ _ _ ⟨by omega, by omega, ?_⟩ (by omega)⟩
      rw [hnx, if_neg g2, List.append_nil]
      exact h
  · have : i = xs.length := by omega
    subst this
    rw [List.take_length] at h
    unfold troveref6_some.j2
    have hol := h.len
    rw [ivs_length, ssort_length] at hol
    exact hk o wL (by omega) (h.cap (by decide)) h
end
end Go.Proofs.Ythdmmmfgjmmelaa

/- Packages, as a law on lists. Own work. -/
namespace Go.Proofs.Ythdmmmfgjmmelaa
set_option linter.unusedVariables false
set_option linter.unusedSimpArgs false
/-- sums two by two -/
def prs : List Int → List Int
  | a :: b :: r => (a + b) :: prs r
  | _ => []
def insAll (l xs : List Int) : List Int := xs.foldl (fun a x => insR idI x a) l
/-- the document's row after i rounds -/
def rowD (l : List Int) : Nat → List Int
  | 0 => []
  | i + 1 => insAll l (prs (rowD l i))
theorem prs_length : ∀ (n : Nat) (l : List Int), l.length = n → (prs l).length = n / 2 := by
  intro n
  induction n using Nat.strongRecOn with
  | _ n ih =>
    intro l h
    match l with
    | [] => simp at h; subst h; rfl
    | [a] => simp at h; subst h; rfl
    | a :: b :: r =>
      simp only [List.length_cons] at h
      rw [prs, List.length_cons, ih r.length (by omega) r rfl]
      omega
theorem insAll_length (xs : List Int) : ∀ l, (insAll l xs).length = l.length + xs.length := by
  induction xs with
  | nil => intro l; rfl
  | cons x xs ih =>
    intro l
    show (insAll (insR idI x l) xs).length = _
    rw [ih, insR_length, List.length_cons]; omega
theorem ssort_of_srt {l : List Int} (h : srt idI l) : ssort idI l = l := by
  have : ∀ (l : List Int), srt idI l → ssort idI l = l := snoc_rec (Q := fun l => srt idI l → ssort idI l = l) (fun _ => rfl) (fun l x ih h => by
    have h' := List.pairwise_append.1 h
    rw [ssort_snoc, ih h'.1]
    have := insR_at (k := idI) (x := x) (T1 := l) (T2 := []) (fun y hy => by have := h'.2.2 y hy x (by simp); omega) (by simp)
    rwa [List.append_nil] at this)
  exact this l h
theorem insAll_eq {l xs : List Int} (h : srt idI l) : insAll l xs = ssort idI (l ++ xs) := by
  unfold insAll ssort
  rw [List.foldl_append]
  have := ssort_of_srt h
  unfold ssort at this
  rw [this]
theorem insAll_perm (xs : List Int) : ∀ l, (insAll l xs).Perm (l ++ xs) := by
  induction xs with
  | nil => intro l; rw [List.append_nil]; exact List.Perm.refl _
  | cons x xs ih =>
    intro l
    show (insAll (insR idI x l) xs).Perm _
    refine (ih _).trans ?_
    have h1 : (insR idI x l ++ xs).Perm (x :: l ++ xs) := (insR_perm x l).append_right xs
    exact h1.trans (List.perm_middle (l₁ := l) (l₂ := xs) (a := x)).symm
theorem prs_b {M : Int} : ∀ (n : Nat) (l : List Int), l.length = n → (∀ x ∈ l, 0 ≤ x ∧ x ≤ M) → ∀ x ∈ prs l, 0 ≤ x ∧ x ≤ 2 * M := by
  intro n
  induction n using Nat.strongRecOn with
  | _ n ih =>
    intro l h hb
    match l with
    | [] => intro x hx; simp [prs] at hx
    | [a] => intro x hx; simp [prs] at hx
    | a :: b :: r =>
      intro x hx
      simp only [List.length_cons] at h
      rw [prs] at hx
      have h1 := hb a (by simp)
      have h2 := hb b (by simp)
      rcases List.mem_cons.1 hx with rfl | hx
      · omega
      · exact ih r.length (by omega) r rfl (fun y hy => hb y (by simp [hy])) x hx
theorem rowD_b {l : List Int} {M : Int} (hM : 0 ≤ M) (h : ∀ x ∈ l, 0 ≤ x ∧ x ≤ M) : ∀ (i : Nat), ∀ x ∈ rowD l i, 0 ≤ x ∧ x ≤ M * (2 ^ i : Nat) := by
  intro i
  induction i with
  | zero => intro x hx; simp [rowD] at hx
  | succ i ih =>
    intro x hx
    rw [rowD] at hx
    have h2 : (2 ^ (i + 1) : Nat) = 2 * 2 ^ i := by rw [Nat.pow_succ]; omega
    have h3 : 1 ≤ 2 ^ i := Nat.one_le_two_pow
    rw [h2]
    generalize 2 ^ i = q at ih h3
    have e1 : M * ((2 * q : Nat) : Int) = 2 * (M * (q : Int)) := by rw [Int.natCast_mul, ← Int.mul_assoc, Int.mul_comm M, Int.mul_assoc]; rfl
    have e2 : M ≤ M * (q : Int) := by
      have := Int.mul_le_mul_of_nonneg_left (show (1 : Int) ≤ (q : Int) by omega) hM
      rwa [Int.mul_one] at this
    rw [e1]
    rcases List.mem_append.1 ((insAll_perm _ _).mem_iff.1 hx) with hx | hx
    · have := h x hx
      omega
    · exact prs_b _ _ rfl ih x hx
theorem prs_get : ∀ (k : Nat) (l : List Int), 2 * k + 1 < l.length → (prs l).getD k 0 = l.getD (2 * k) 0 + l.getD (2 * k + 1) 0 := by
  intro k
  induction k with
  | zero =>
    intro l h
    match l with
    | [] => simp at h
    | [a] => simp at h
    | a :: b :: r => rfl
  | succ k ih =>
    intro l h
    match l with
    | [] => simp at h
    | [a] => simp at h
    | a :: b :: r =>
      simp only [List.length_cons] at h
      rw [prs]
      have := ih r (by omega)
      rw [show 2 * (k + 1) = 2 * k + 1 + 1 by omega]
      simpa using this
theorem rowD_le (l : List Int) : ∀ i, (rowD l i).length ≤ 2 * l.length := by
  intro i
  induction i with
  | zero => simp [rowD]
  | succ i ih => rw [rowD, insAll_length, prs_length _ _ rfl]; omega
theorem rowD_srt {l : List Int} (h : srt idI l) : ∀ i, srt idI (rowD l i) := by
  intro i
  cases i with
  | zero => exact List.Pairwise.nil
  | succ i => rw [rowD, insAll_eq h]; exact ssort_srt _
end Go.Proofs.Ythdmmmfgjmmelaa

/- Packages: which symbols the front of the last row takes, how often: a full code. Own work. -/
namespace Go.Proofs.Ythdmmmfgjmmelaa
set_option linter.unusedVariables false
set_option linter.unusedSimpArgs false

theorem two_rec {α : Type} {Q : List α → Prop} (h0 : Q []) (h1 : ∀ a, Q [a]) (h2 : ∀ a b r, Q r → Q (a :: b :: r)) : ∀ l, Q l
  | [] => h0
  | [a] => h1 a
  | a :: b :: r => h2 a b r (two_rec h0 h1 h2 r)

/-! ### sorting, for any key -/
section
variable {α β : Type} {k : α → Int}
theorem ssort_srt_id {l : List α} (h : srt k l) : ssort k l = l := by
  have : ∀ (l : List α), srt k l → ssort k l = l := snoc_rec (Q := fun l => srt k l → ssort k l = l) (fun _ => rfl) (fun l x ih h => by
    have h' := List.pairwise_append.1 h
    rw [ssort_snoc, ih h'.1]
    have := insR_at (k := k) (x := x) (T1 := l) (T2 := []) (fun y hy => by have := h'.2.2 y hy x (by simp); omega) (by simp)
    rwa [List.append_nil] at this)
  exact this l h
theorem insR_map {k' : β → Int} {f : α → β} (hf : ∀ a, k' (f a) = k a) (x : α) (l : List α) : (insR k x l).map f = insR k' (f x) (l.map f) := by
  induction l with
  | nil => rfl
  | cons y l ih =>
    rw [insR, List.map_cons, insR, hf, hf]
    split
    · rfl
    · rw [List.map_cons, ih]
theorem ssort_map {k' : β → Int} {f : α → β} (hf : ∀ a, k' (f a) = k a) (l : List α) : (ssort k l).map f = ssort k' (l.map f) :=
  snoc_rec (Q := fun l => (ssort k l).map f = ssort k' (l.map f)) rfl (fun l x ih => by
    rw [ssort_snoc, insR_map hf, ih, List.map_append, List.map_cons, List.map_nil, ssort_snoc]) l
theorem ssort_front (A B : List α) : ssort k (ssort k A ++ B) = ssort k (A ++ B) := by
  rw [ssort_append, ssort_append, ssort_srt_id (ssort_srt A)]

/-- the first m of a merge: so many of one, so many of the other -/
theorem mrg_take : ∀ (m : Nat) (A B : List α), srt k A → m ≤ A.length + B.length → ∃ c p, c + p = m ∧ c ≤ A.length ∧ p ≤ B.length ∧ ((mrg k A B).take m).Perm (A.take c ++ B.take p) ∧ ∀ (h : c < A.length), ∀ b ∈ B.take p, k b < k A[c] := by
  intro m
  induction m with
  | zero => intro A B _ _; exact ⟨0, 0, rfl, by omega, by omega, by simp, by simp⟩
  | succ m ih =>
    intro A B hA hm
    cases A with
    | nil =>
      rw [mrg_nil]
      exact ⟨0, m + 1, by omega, by omega, by simpa using hm, by simp, fun h => by simp at h⟩
    | cons x A =>
      cases B with
      | nil =>
        rw [mrg_nil']
        exact ⟨m + 1, 0, by omega, by simpa using hm, by omega, by simp, fun h b hb => by simp at hb⟩
      | cons y B =>
        simp only [List.length_cons] at hm
        rw [mrg_cons]
        by_cases hxy : k y < k x
        · rw [if_pos hxy]
          obtain ⟨c, p, h1, h2, h3, h4, h5⟩ := ih (x :: A) B hA (by simp only [List.length_cons]; omega)
          refine ⟨c, p + 1, by omega, h2, by simp only [List.length_cons]; omega, ?_, ?_⟩
          · rw [List.take_succ_cons, List.take_succ_cons]
            exact (h4.cons y).trans (List.perm_middle).symm
          · intro h b hb
            rw [List.take_succ_cons] at hb
            rcases List.mem_cons.1 hb with rfl | hb
            · have hx : k x ≤ k (x :: A)[c] := by
                cases c with
                | zero => exact Int.le_refl _
                | succ c =>
                  have := (List.pairwise_cons.1 hA).1 ((x :: A)[c + 1]) (by rw [List.getElem_cons_succ]; exact List.getElem_mem _)
                  exact this
              omega
            · exact h5 h b hb
        · rw [if_neg hxy]
          obtain ⟨c, p, h1, h2, h3, h4, h5⟩ := ih A (y :: B) (List.pairwise_cons.1 hA).2 (by simp only [List.length_cons]; omega)
          refine ⟨c + 1, p, by omega, by simp only [List.length_cons]; omega, h3, ?_, ?_⟩
          · rw [List.take_succ_cons, List.take_succ_cons]
            exact h4.cons x
          · intro h b hb
            rw [List.getElem_cons_succ]
            exact h5 (by simpa using h) b hb
end

/-! ### packages -/
/-- a package: its weight, its symbols -/
abbrev Pg := Int × List Nat
def gw (x : Pg) : Int := x.1
def prsP : List Pg → List Pg
  | a :: b :: r => (a.1 + b.1, a.2 ++ b.2) :: prsP r
  | _ => []
def rowP (cs : List Pg) : Nat → List Pg
  | 0 => []
  | i + 1 => ssort gw (cs ++ prsP (rowP cs i))
def flat (l : List Pg) : List Nat := l.flatMap (·.2)
theorem flat_append (a b : List Pg) : flat (a ++ b) = flat a ++ flat b := by simp [flat]
theorem flat_cons (a : Pg) (b : List Pg) : flat (a :: b) = a.2 ++ flat b := rfl
theorem flat_perm {a b : List Pg} (h : a.Perm b) : (flat a).Perm (flat b) := by
  induction h with
  | nil => exact List.Perm.refl _
  | cons x _ ih => exact ih.append_left _
  | swap x y l =>
    show (y.2 ++ (x.2 ++ flat l)).Perm (x.2 ++ (y.2 ++ flat l))
    rw [← List.append_assoc, ← List.append_assoc]
    exact List.perm_append_comm.append_right _
  | trans _ _ h1 h2 => exact h1.trans h2

theorem prsP_w : ∀ l : List Pg, (prsP l).map gw = prs (l.map gw) := two_rec rfl (fun _ => rfl) (fun a b r ih => by
  show (a.1 + b.1) :: (prsP r).map gw = (a.1 + b.1) :: prs (r.map gw)
  rw [ih])
theorem prsP_length : ∀ l : List Pg, (prsP l).length = l.length / 2 := two_rec rfl (fun a => by simp [prsP]) (fun a b r ih => by
  show (prsP r).length + 1 = (r.length + 1 + 1) / 2
  omega)
theorem prsP_take : ∀ (l : List Pg) (p : Nat), (prsP l).take p = prsP (l.take (2 * p)) := two_rec (fun p => by simp [prsP]) (fun a p => by cases p <;> simp [prsP, show ∀ p, 2 * (p + 1) = 2 * p + 1 + 1 by omega]) (fun a b r ih p => by
  cases p with
  | zero => rfl
  | succ p =>
    rw [show 2 * (p + 1) = 2 * p + 1 + 1 by omega, List.take_succ_cons, List.take_succ_cons, prsP, prsP, List.take_succ_cons, ih])
theorem flat_prsP : ∀ l : List Pg, l.length % 2 = 0 → flat (prsP l) = flat l := two_rec (fun _ => rfl) (fun a h => by simp at h) (fun a b r ih h => by
  simp only [List.length_cons] at h
  rw [prsP, flat_cons, flat_cons, flat_cons, ih (by omega), List.append_assoc])
theorem prsP_up : ∀ l : List Pg, l.length % 2 = 0 → (∀ y ∈ l, 0 < gw y) → ∀ x ∈ l, ∃ b ∈ prsP l, gw x < gw b := two_rec (fun _ _ x hx => by cases hx) (fun a h => by simp at h) (fun a b r ih h hp x hx => by
  simp only [List.length_cons] at h
  have ha := hp a (by simp)
  have hb := hp b (by simp)
  rcases List.mem_cons.1 hx with rfl | hx
  · exact ⟨_, by rw [prsP]; exact List.mem_cons_self, by show gw x < gw x + gw b; omega⟩
  · rcases List.mem_cons.1 hx with rfl | hx
    · exact ⟨_, by rw [prsP]; exact List.mem_cons_self, by show gw x < gw a + gw x; omega⟩
    · obtain ⟨c, h1, h2⟩ := ih (by omega) (fun y hy => hp y (by simp [hy])) x hx
      exact ⟨c, by rw [prsP]; exact List.mem_cons_of_mem _ h1, h2⟩)
theorem prsP_pos : ∀ l : List Pg, (∀ y ∈ l, 0 < gw y) → ∀ x ∈ prsP l, 0 < gw x := two_rec (fun _ x hx => by cases hx) (fun a _ x hx => by cases hx) (fun a b r ih hp x hx => by
  rw [prsP] at hx
  have ha := hp a (by simp)
  have hb := hp b (by simp)
  rcases List.mem_cons.1 hx with rfl | hx
  · show 0 < gw a + gw b; omega
  · exact ih (fun y hy => hp y (by simp [hy])) x hx)
theorem prsP_ge (m : Int) : ∀ l : List Pg, (∀ y ∈ l, m ≤ gw y) → ∀ x ∈ prsP l, m + m ≤ gw x := two_rec (fun _ x hx => by cases hx) (fun a _ x hx => by cases hx) (fun a b r ih hp x hx => by
  rw [prsP] at hx
  have ha := hp a (by simp)
  have hb := hp b (by simp)
  rcases List.mem_cons.1 hx with rfl | hx
  · show m + m ≤ gw a + gw b; omega
  · exact ih (fun y hy => hp y (by simp [hy])) x hx)
theorem prsP_srt : ∀ l : List Pg, srt gw l → srt gw (prsP l) := two_rec (fun _ => List.Pairwise.nil) (fun _ _ => List.Pairwise.nil) (fun a b r ih h => by
  have h1 := List.pairwise_cons.1 h
  have h2 := List.pairwise_cons.1 h1.2
  rw [prsP]
  refine List.pairwise_cons.2 ⟨fun y hy => ?_, ih h2.2⟩
  have := prsP_ge (gw b) r h2.1 y hy
  have hab := h1.1 b (by simp)
  show gw a + gw b ≤ gw y
  omega)

section
variable {cs : List Pg}
theorem rowP_w (cs : List Pg) : ∀ i, (rowP cs i).map gw = rowD (ssort idI (cs.map gw)) i := by
  intro i
  induction i with
  | zero => rfl
  | succ i ih =>
    rw [rowP, rowD, insAll_eq (ssort_srt _), ssort_front, ssort_map (k := gw) (k' := idI) (f := gw) (fun _ => rfl), List.map_append, prsP_w, ih]
theorem rowP_srt : ∀ i, srt gw (rowP cs i) := by
  intro i
  cases i with
  | zero => exact List.Pairwise.nil
  | succ i => exact ssort_srt _
theorem rowP_mrg (i : Nat) : rowP cs (i + 1) = mrg gw (ssort gw cs) (prsP (rowP cs i)) := by
  rw [rowP, ssort_append, ssort_srt_id (prsP_srt _ (rowP_srt i))]
theorem rowP_pos (hp : ∀ x ∈ cs, 0 < gw x) : ∀ i, ∀ x ∈ rowP cs i, 0 < gw x := by
  intro i
  induction i with
  | zero => intro x hx; cases hx
  | succ i ih =>
    intro x hx
    rcases List.mem_append.1 ((ssort_perm _).mem_iff.1 hx) with hx | hx
    · exact hp x hx
    · exact prsP_pos _ ih x hx
theorem rowP_length (i : Nat) : (rowP cs (i + 1)).length = cs.length + (rowP cs i).length / 2 := by
  rw [rowP, ssort_length, List.length_append, prsP_length]
theorem rowP_lt (h : 1 ≤ cs.length) : ∀ i, (rowP cs i).length < 2 * cs.length := by
  intro i
  induction i with
  | zero => simp only [rowP, List.length_nil]; omega
  | succ i ih => rw [rowP_length]; omega
theorem rowP_many (h : 1 ≤ cs.length) : ∀ i, (2 * cs.length - (rowP cs i).length) * 2 ^ i < 2 * cs.length + 2 ^ i := by
  intro i
  induction i with
  | zero => simp [rowP]
  | succ i ih =>
    have := rowP_lt h i
    rw [rowP_length, Nat.pow_succ]
    generalize (rowP cs i).length = r at this ih
    have h2 : 2 * (2 * cs.length - (cs.length + r / 2)) ≤ (2 * cs.length - r) + 1 := by omega
    have h3 := Nat.mul_le_mul_right (2 ^ i) h2
    rw [Nat.add_mul, Nat.one_mul, Nat.mul_assoc, Nat.mul_comm 2, Nat.mul_assoc] at h3
    omega
theorem rowP_enough (h : 1 ≤ cs.length) {L : Nat} (hL : cs.length ≤ 2 ^ L) : 2 * cs.length - 2 ≤ (rowP cs L).length := by
  have h1 := rowP_many h L
  have h2 : (2 * cs.length - (rowP cs L).length) * 2 ^ L < 3 * 2 ^ L := by omega
  have := Nat.lt_of_mul_lt_mul_right h2
  omega

theorem sum_add {α : Type} (q : Nat) (g h : α → Nat) : ∀ (A : List α), (∀ s ∈ A, g s = q + h s) → (A.map g).sum = A.length * q + (A.map h).sum := by
  intro A
  induction A with
  | nil => intro _; simp
  | cons a A ih =>
    intro hA
    rw [List.map_cons, List.sum_cons, List.map_cons, List.sum_cons, ih (fun s hs => hA s (by simp [hs])), hA a (by simp), List.length_cons, Nat.add_mul, Nat.one_mul]
    omega
theorem sum_same {α : Type} (g h : α → Nat) (A : List α) (e : ∀ s ∈ A, g s = h s) : (A.map g).sum = (A.map h).sum := by
  rw [List.map_congr_left e]
theorem count_nodup {s : Nat} : ∀ {l : List Nat}, l.Nodup → s ∈ l → l.count s = 1 := by
  intro l
  induction l with
  | nil => intro _ h; cases h
  | cons a l ih =>
    intro hn h
    have hn := List.nodup_cons.1 hn
    rcases List.mem_cons.1 h with rfl | h
    · rw [List.count_cons_self, List.count_eq_zero.2 hn.1]
    · rw [List.count_cons_of_ne (fun e => hn.1 (by rw [e]; exact h)), ih hn.2 h]
theorem flat_take : ∀ {l : List Pg} (c : Nat), (∀ x ∈ l, x.2.length = 1) → flat (l.take c) = (flat l).take c := by
  intro l
  induction l with
  | nil => intro c _; simp [flat]
  | cons a l ih =>
    intro c h
    cases c with
    | zero => rfl
    | succ c =>
      obtain ⟨s, hs⟩ := List.length_eq_one_iff.1 (h a (by simp))
      rw [List.take_succ_cons, flat_cons, flat_cons, ih c (fun x hx => h x (by simp [hx])), hs]
      rfl
theorem flat_len : ∀ {l : List Pg}, (∀ x ∈ l, x.2.length = 1) → (flat l).length = l.length := by
  intro l
  induction l with
  | nil => intro _; rfl
  | cons a l ih =>
    intro h
    rw [flat_cons, List.length_append, h a (by simp), ih (fun x hx => h x (by simp [hx])), List.length_cons]; omega

/-- what the first m of row i take: T -/
def Tk3 (cs : List Pg) (i m : Nat) : Prop := ∃ c, c ≤ cs.length ∧ (2 * cs.length - 2 ≤ m → c = cs.length) ∧ (∀ x ∈ (ssort gw cs).take c, x ∈ (rowP cs i).take m) ∧
  (∀ s ∈ (flat (ssort gw cs)).take c, 0 < (flat ((rowP cs i).take m)).count s ∧ (flat ((rowP cs i).take m)).count s ≤ i) ∧
  (∀ s, s ∉ (flat (ssort gw cs)).take c → (flat ((rowP cs i).take m)).count s = 0) ∧
  ((flat (ssort gw cs)).map fun s => 2 ^ (i + 1) - 2 ^ (i + 1 - (flat ((rowP cs i).take m)).count s)).sum = m * 2 ^ i

theorem takes (hn : 2 ≤ cs.length) (hp : ∀ x ∈ cs, 0 < gw x) (h1 : ∀ x ∈ cs, x.2.length = 1) (hd : (flat cs).Nodup) : ∀ i m, m ≤ (rowP cs i).length → Tk3 cs i m := by
  have hS : ∀ x ∈ ssort gw cs, x.2.length = 1 := fun x hx => h1 x ((ssort_perm _).mem_iff.1 hx)
  have hSd : (flat (ssort gw cs)).Nodup := (flat_perm (ssort_perm cs)).symm.nodup hd
  have hSl : (flat (ssort gw cs)).length = cs.length := by rw [flat_len hS, ssort_length]
  intro i
  induction i with
  | zero =>
    intro m hm
    have : m = 0 := by simpa [rowP] using hm
    subst this
    refine ⟨0, by omega, fun h => by omega, by simp, by simp, by simp [rowP, flat], ?_⟩
    rw [Nat.zero_mul, sum_same _ (fun _ => 0) _ (fun s _ => by simp [rowP, flat])]
    generalize flat (ssort gw cs) = l
    induction l with
    | nil => rfl
    | cons a l ih => simpa using ih
  | succ i ih =>
    intro m hm
    rw [rowP_mrg, mrg_length _ _ _ rfl] at hm
    obtain ⟨c, p, hcp, hc, hpB, hperm, hlt⟩ := mrg_take (k := gw) m (ssort gw cs) (prsP (rowP cs i)) (ssort_srt _) hm
    rw [ssort_length] at hc
    have hpB' := hpB
    rw [prsP_length] at hpB'
    obtain ⟨c', hc', hall, hmem, hcnt, hno, hsum⟩ := ih (2 * p) (by omega)
    have hl2 : ((rowP cs i).take (2 * p)).length = 2 * p := by rw [List.length_take]; omega
    have hcc : c' ≤ c := by
      rcases Nat.lt_or_ge c c' with hlt2 | hge
      · exfalso
        have hcS : c < (ssort gw cs).length := by rw [ssort_length]; omega
        have hx : (ssort gw cs)[c] ∈ (rowP cs i).take (2 * p) := hmem _ (List.mem_take_iff_getElem.2 ⟨c, by omega, rfl⟩)
        obtain ⟨b, hb, hlt3⟩ := prsP_up _ (by rw [hl2]; omega) (fun y hy => rowP_pos hp i y (List.mem_of_mem_take hy)) _ hx
        rw [← prsP_take] at hb
        have := hlt hcS b hb
        omega
      · exact hge
    have hF : ∀ s, (flat ((rowP cs (i + 1)).take m)).count s = ((flat (ssort gw cs)).take c).count s + (flat ((rowP cs i).take (2 * p))).count s := by
      intro s
      rw [rowP_mrg, (flat_perm hperm).count_eq, flat_append, List.count_append, flat_take _ hS, prsP_take, flat_prsP _ (by rw [hl2]; omega)]
    have hin : ∀ s, s ∈ (flat (ssort gw cs)).take c → ((flat (ssort gw cs)).take c).count s = 1 := fun s hs => count_nodup (hSd.sublist (List.take_sublist _ _)) hs
    have hbd : ∀ s, (flat ((rowP cs i).take (2 * p))).count s ≤ i := by
      intro s
      by_cases hs : s ∈ (flat (ssort gw cs)).take c'
      · exact (hcnt s hs).2
      · rw [hno s hs]; omega
    have hno2 : ∀ s, s ∉ (flat (ssort gw cs)).take c → (flat ((rowP cs i).take (2 * p))).count s = 0 := fun s hs => hno s fun h => hs (by
      have : (flat (ssort gw cs)).take c' = ((flat (ssort gw cs)).take c).take c' := by rw [List.take_take, Nat.min_eq_left hcc]
      rw [this] at h
      exact List.mem_of_mem_take h)
    refine ⟨c, hc, ?_, ?_, ?_, ?_, ?_⟩
    · intro h2
      have hrl := rowP_lt (cs := cs) (by omega) i
      rcases Nat.lt_or_ge c cs.length with hlt2 | hge
      · have : p = cs.length - 1 := by omega
        have := hall (by omega)
        omega
      · omega
    · intro x hx
      rw [rowP_mrg]
      exact hperm.mem_iff.2 (List.mem_append_left _ hx)
    · intro s hs
      rw [hF, hin s hs]
      have := hbd s
      omega
    · intro s hs
      rw [hF, List.count_eq_zero.2 hs, hno2 s hs]
    · have e := List.take_append_drop c (flat (ssort gw cs))
      have hdis : ∀ s ∈ (flat (ssort gw cs)).drop c, s ∉ (flat (ssort gw cs)).take c := by
        intro s hs hs2
        rw [← e] at hSd
        exact (List.nodup_append.1 hSd).2.2 s hs2 s hs rfl
      have hcl : ((flat (ssort gw cs)).take c).length = c := by rw [List.length_take, hSl]; omega
      rw [← e, List.map_append, List.sum_append] at hsum ⊢
      rw [sum_add (2 ^ (i + 1)) _ (fun s => 2 ^ (i + 1) - 2 ^ (i + 1 - (flat ((rowP cs i).take (2 * p))).count s)) ((flat (ssort gw cs)).take c) (fun s hs => ?_),
        sum_same _ (fun s => 2 ^ (i + 1) - 2 ^ (i + 1 - (flat ((rowP cs i).take (2 * p))).count s)) ((flat (ssort gw cs)).drop c) (fun s hs => ?_), Nat.add_assoc, hsum, hcl]
      · rw [← hcp, Nat.pow_succ, Nat.add_mul, Nat.mul_comm 2 p, Nat.mul_assoc p, Nat.mul_comm 2]
      rotate_left
      · rw [hF, hin s hs]
        have hb := hbd s
        generalize (flat ((rowP cs i).take (2 * p))).count s = f at hb
        rw [show i + 1 + 1 - (1 + f) = i + 1 - f by omega]
        have h3 : 2 ^ (i + 1 - f) ≤ 2 ^ (i + 1) := Nat.pow_le_pow_right (by omega) (by omega)
        rw [Nat.pow_succ 2 (i + 1)]
        omega
      · rw [hF, List.count_eq_zero.2 (hdis s hs), hno2 s (hdis s hs)]
        simp

/-- the front of the last row is a full code -/
theorem full (hn : 2 ≤ cs.length) (hp : ∀ x ∈ cs, 0 < gw x) (h1 : ∀ x ∈ cs, x.2.length = 1) (hd : (flat cs).Nodup) {L : Nat} (hL : cs.length ≤ 2 ^ L) :
    (∀ s ∈ flat cs, 0 < (flat ((rowP cs L).take (2 * cs.length - 2))).count s ∧ (flat ((rowP cs L).take (2 * cs.length - 2))).count s ≤ L) ∧
    (∀ s, s ∉ flat cs → (flat ((rowP cs L).take (2 * cs.length - 2))).count s = 0) ∧
    ∀ K, L ≤ K → ((flat cs).map fun s => 2 ^ (K - (flat ((rowP cs L).take (2 * cs.length - 2))).count s)).sum = 2 ^ K := by
  have hS : ∀ x ∈ ssort gw cs, x.2.length = 1 := fun x hx => h1 x ((ssort_perm _).mem_iff.1 hx)
  have hSl : (flat (ssort gw cs)).length = cs.length := by rw [flat_len hS, ssort_length]
  have hpm : (flat (ssort gw cs)).Perm (flat cs) := flat_perm (ssort_perm cs)
  obtain ⟨c, hc, hall, hmem, hcnt, hno, hsum⟩ := takes hn hp h1 hd L (2 * cs.length - 2) (rowP_enough (by omega) hL)
  have hc := hall (Nat.le_refl _)
  rw [hc, ← hSl, List.take_length, hSl] at hcnt hno
  generalize (rowP cs L).take (2 * cs.length - 2) = R at *
  refine ⟨fun s hs => hcnt s (hpm.mem_iff.2 hs), fun s hs => hno s (fun h => hs (hpm.mem_iff.1 h)), fun K hK => ?_⟩
  rw [← (hpm.map _).sum_nat]
  have e1 : ∀ (l : List Nat), (∀ s ∈ l, (flat R).count s ≤ L ∧ 0 < (flat R).count s) → (l.map fun s => 2 ^ (L + 1) - 2 ^ (L + 1 - (flat R).count s)).sum + 2 * (l.map fun s => 2 ^ (L - (flat R).count s)).sum = l.length * 2 ^ (L + 1) := by
    intro l
    induction l with
    | nil => intro _; simp
    | cons a l ih =>
      intro h
      have ha := h a (by simp)
      have := ih (fun s hs => h s (by simp [hs]))
      simp only [List.map_cons, List.sum_cons, List.length_cons]
      have h3 : 2 ^ (L + 1 - (flat R).count a) = 2 * 2 ^ (L - (flat R).count a) := by
        rw [show L + 1 - (flat R).count a = (L - (flat R).count a) + 1 by omega, Nat.pow_succ, Nat.mul_comm]
      have h4 : 2 ^ (L + 1 - (flat R).count a) ≤ 2 ^ (L + 1) := Nat.pow_le_pow_right (by omega) (by omega)
      rw [Nat.add_mul, Nat.one_mul]
      omega
  have e2 := e1 _ (fun s hs => ⟨(hcnt s hs).2, (hcnt s hs).1⟩)
  rw [hsum, hSl, Nat.pow_succ] at e2
  have e3 : ((flat (ssort gw cs)).map fun s => 2 ^ (L - (flat R).count s)).sum = 2 ^ L := by
    have : (2 * cs.length - 2) * 2 ^ L + 2 * 2 ^ L = cs.length * (2 ^ L * 2) := by
      rw [← Nat.add_mul, show 2 * cs.length - 2 + 2 = cs.length * 2 by omega, Nat.mul_assoc, Nat.mul_comm 2]
    omega
  have e4 : ∀ (l : List Nat), (∀ s ∈ l, (flat R).count s ≤ L) → (l.map fun s => 2 ^ (K - (flat R).count s)).sum = 2 ^ (K - L) * (l.map fun s => 2 ^ (L - (flat R).count s)).sum := by
    intro l
    induction l with
    | nil => intro _; simp
    | cons a l ih =>
      intro h
      have ha := h a (by simp)
      simp only [List.map_cons, List.sum_cons]
      rw [ih (fun s hs => h s (by simp [hs])), Nat.mul_add, ← Nat.pow_add, show K - L + (L - (flat R).count a) = K - (flat R).count a by omega]
  rw [e4 _ (fun s hs => (hcnt s hs).2), e3, ← Nat.pow_add, show K - L + L = K by omega]
end
end Go.Proofs.Ythdmmmfgjmmelaa

/- The lengths by packages, as a law on lists: what they cost; a wider bound. Own work. -/
namespace Go.Proofs.Ythdmmmfgjmmelaa
set_option linter.unusedVariables false
set_option linter.unusedSimpArgs false

/-! ### rows: a round more makes nothing dearer -/
def cnt (t : Int) (l : List Int) : Nat := l.countP fun x => decide (x ≤ t)
theorem cnt_cons (t x : Int) (l : List Int) : cnt t (x :: l) = cnt t l + if x ≤ t then 1 else 0 := by
  unfold cnt
  rw [List.countP_cons]
  simp
theorem cnt_append (t : Int) (a b : List Int) : cnt t (a ++ b) = cnt t a + cnt t b := List.countP_append
theorem cnt_le (t : Int) (l : List Int) : cnt t l ≤ l.length := List.countP_le_length
theorem ew_cnt (t : Int) : ∀ (Y X : List Int), Y.length ≤ X.length → (∀ k, k < Y.length → X.getD k 0 ≤ Y.getD k 0) → cnt t Y ≤ cnt t X := by
  intro Y
  induction Y with
  | nil => intro X _ _; exact Nat.zero_le _
  | cons y Y ih =>
    intro X h1 h2
    cases X with
    | nil => simp at h1
    | cons x X =>
      have h0 := h2 0 (by simp)
      simp only [List.getD_cons_zero] at h0
      have := ih X (by simpa using h1) (fun k hk => by have := h2 (k + 1) (by simpa using hk); simpa using this)
      rw [cnt_cons, cnt_cons]
      split <;> split <;> omega
theorem cnt_all {t : Int} : ∀ {l : List Int}, (∀ x ∈ l, x ≤ t) → cnt t l = l.length := by
  intro l
  induction l with
  | nil => intro _; rfl
  | cons a l ih => intro h; rw [cnt_cons, ih (fun x hx => h x (by simp [hx])), if_pos (h a (by simp))]; rfl
theorem cnt_none {t : Int} : ∀ {l : List Int}, (∀ x ∈ l, t < x) → cnt t l = 0 := by
  intro l
  induction l with
  | nil => intro _; rfl
  | cons a l ih => intro h; rw [cnt_cons, ih (fun x hx => h x (by simp [hx])), if_neg (by have := h a (by simp); omega)]
theorem srt_cut {l : List Int} (h : srt idI l) {k : Nat} (hk : k < l.length) : (∀ x ∈ l.take k, x ≤ l.getD k 0) ∧ ∀ x ∈ l.drop k, l.getD k 0 ≤ x := by
  have e : l.getD k 0 = l[k] := by rw [List.getD, List.getElem?_eq_getElem hk]; rfl
  have h2 := h
  rw [← List.take_append_drop k l] at h2
  have h3 := List.pairwise_append.1 h2
  have hd : l.drop k = l[k] :: l.drop (k + 1) := List.drop_eq_getElem_cons hk
  rw [e]
  refine ⟨fun x hx => h3.2.2 x hx l[k] (by rw [hd]; exact List.mem_cons_self), fun x hx => ?_⟩
  rw [hd] at hx h3
  rcases List.mem_cons.1 hx with rfl | hx
  · exact Int.le_refl _
  · exact (List.pairwise_cons.1 h3.2.1).1 x hx
theorem cnt_ew {X Y : List Int} (hX : srt idI X) (hY : srt idI Y) (h : ∀ t, cnt t Y ≤ cnt t X) {k : Nat} (hk : k < Y.length) : k < X.length ∧ X.getD k 0 ≤ Y.getD k 0 := by
  have hy := srt_cut hY hk
  have h1 : k + 1 ≤ cnt (Y.getD k 0) Y := by
    have e := List.take_append_drop k Y
    have hd : Y.drop k = Y.getD k 0 :: Y.drop (k + 1) := drop_sn hk
    have : cnt (Y.getD k 0) Y = cnt (Y.getD k 0) (Y.take k ++ Y.drop k) := by rw [e]
    rw [this, cnt_append, cnt_all hy.1, hd, cnt_cons, if_pos (Int.le_refl _), List.length_take]
    omega
  have h2 := h (Y.getD k 0)
  have h3 := cnt_le (Y.getD k 0) X
  have hkX : k < X.length := by omega
  refine ⟨hkX, ?_⟩
  rcases Int.lt_or_le (Y.getD k 0) (X.getD k 0) with h4 | h4
  · exfalso
    have hx := srt_cut hX hkX
    have : cnt (Y.getD k 0) X = cnt (Y.getD k 0) (X.take k ++ X.drop k) := by rw [List.take_append_drop]
    rw [cnt_append, cnt_none (l := X.drop k) (fun x hx' => by have := hx.2 x hx'; omega)] at this
    have h5 := cnt_le (Y.getD k 0) (X.take k)
    rw [List.length_take] at h5
    omega
  · exact h4
theorem row_more {l : List Int} (hl : srt idI l) : ∀ i, (rowD l i).length ≤ (rowD l (i + 1)).length ∧ ∀ k, k < (rowD l i).length → (rowD l (i + 1)).getD k 0 ≤ (rowD l i).getD k 0 := by
  intro i
  induction i with
  | zero => exact ⟨by simp [rowD], fun k hk => by simp [rowD] at hk⟩
  | succ i ih =>
    have hlen : ∀ j, (rowD l (j + 1)).length = l.length + (rowD l j).length / 2 := fun j => by rw [rowD, insAll_length, prs_length _ _ rfl]
    refine ⟨by have h1 := hlen (i + 1); have h2 := hlen i; have h3 := ih.1; omega, fun k hk => ?_⟩
    refine (cnt_ew (rowD_srt hl _) (rowD_srt hl _) (fun t => ?_) hk).2
    have hp : ∀ j, cnt t (rowD l (j + 1)) = cnt t l + cnt t (prs (rowD l j)) := fun j => by
      rw [← cnt_append]
      exact (insAll_perm _ _).countP_eq _
    rw [hp (i + 1), hp i]
    refine Nat.add_le_add_left (ew_cnt t _ _ ?_ ?_) _
    · rw [prs_length _ _ rfl, prs_length _ _ rfl]; omega
    · intro j hj
      rw [prs_length _ _ rfl] at hj
      rw [prs_get _ _ (by omega), prs_get _ _ (by omega)]
      have h1 := ih.2 (2 * j) (by omega)
      have h2 := ih.2 (2 * j + 1) (by omega)
      omega
theorem take_ew : ∀ (m : Nat) (X Y : List Int), m ≤ Y.length → m ≤ X.length → (∀ k, k < m → X.getD k 0 ≤ Y.getD k 0) → (X.take m).sum ≤ (Y.take m).sum := by
  intro m
  induction m with
  | zero => intro X Y _ _ _; simp
  | succ m ih =>
    intro X Y h1 h2 h3
    match X, Y with
    | [], _ => simp at h2
    | _ :: _, [] => simp at h1
    | x :: X, y :: Y =>
      have h0 := h3 0 (by omega)
      simp only [List.getD_cons_zero] at h0
      have := ih X Y (by simpa using h1) (by simpa using h2) (fun k hk => by have := h3 (k + 1) (by omega); simpa using this)
      rw [List.take_succ_cons, List.take_succ_cons, List.sum_cons, List.sum_cons]
      omega

/-! ### a row of numbers that are alike -/
theorem prs_sum : ∀ l : List Int, l.length % 2 = 0 → (prs l).sum = l.sum := two_rec (fun _ => rfl) (fun a h => by simp at h) (fun a b r ih h => by
  simp only [List.length_cons] at h
  rw [prs, List.sum_cons, List.sum_cons, List.sum_cons, ih (by omega)]; omega)
theorem perm_sum {a b : List Int} (h : a.Perm b) : a.sum = b.sum := by
  induction h with
  | nil => rfl
  | cons x _ ih => rw [List.sum_cons, List.sum_cons, ih]
  | swap x y l => simp only [List.sum_cons]; omega
  | trans _ _ h1 h2 => rw [h1, h2]
theorem row_same {l : List Int} {n : Nat} (hl : l.length = 2 ^ n) : ∀ i, i ≤ n → (rowD l i).length + 2 * 2 ^ (n - i) = 2 * 2 ^ n ∧ (rowD l i).sum = i * l.sum := by
  intro i
  induction i with
  | zero => intro _; simp [rowD]
  | succ i ih =>
    intro hi
    obtain ⟨h1, h2⟩ := ih (by omega)
    have e : 2 ^ (n - i) = 2 * 2 ^ (n - (i + 1)) := by rw [show n - i = n - (i + 1) + 1 by omega, Nat.pow_succ, Nat.mul_comm]
    refine ⟨?_, ?_⟩
    · rw [rowD, insAll_length, prs_length _ _ rfl, hl]; omega
    · rw [rowD, perm_sum (insAll_perm _ _), List.sum_append, prs_sum _ (by omega), h2, Int.natCast_succ, Int.add_mul, Int.one_mul]; omega

/-! ### the lengths -/
def lsum (l : List Int) : Int := l.sum
/-- what the best code of bounded length costs, by the document's packages -/
def costD (xs : List Int) (m : Nat) : Int :=
  let l := ssort idI (xs.filter (0 < ·))
  if l.length < 2 then l.sum else ((rowD l m).take (2 * l.length - 2)).sum
def coinsP (xs : List Int) : List Pg := (comeL xs).map fun i => (xs.getD i 0, [i])
def lenF (xs : List Int) (m : Nat) (i : Nat) : Nat :=
  if (comeL xs).length < 2 then (if 0 < xs.getD i 0 then 1 else 0) else (flat ((rowP (coinsP xs) m).take (2 * (comeL xs).length - 2))).count i
/-- the lengths of the code -/
def lenP (xs : List Int) (m : Nat) : List Int := mapR xs.length fun i => lenF xs m i

theorem xs_mapR (xs : List Int) : xs = (List.range xs.length).map fun i => xs.getD i 0 := by
  refine lext (by simp) fun j hj => ?_
  have := getD_mapR (n := xs.length) (f := fun i => xs.getD i 0) hj
  exact this.symm
theorem coins_w (xs : List Int) : (coinsP xs).map gw = xs.filter (0 < ·) := by
  conv => rhs; rw [xs_mapR xs]
  rw [List.filter_map]
  unfold coinsP comeL
  rw [List.map_map]
  rfl
theorem coins_flat (xs : List Int) : flat (coinsP xs) = comeL xs := by
  unfold coinsP
  generalize comeL xs = l
  induction l with
  | nil => rfl
  | cons a l ih => rw [List.map_cons, flat_cons, ih]; rfl
theorem coins_length (xs : List Int) : (coinsP xs).length = (comeL xs).length := by simp [coinsP]
theorem filter_length (xs : List Int) : (xs.filter (0 < ·)).length = (comeL xs).length := by rw [← coins_w]; simp [coins_length]
theorem mem_come {xs : List Int} {i : Nat} : i ∈ comeL xs ↔ i < xs.length ∧ 0 < xs.getD i 0 := by
  unfold comeL; simp
theorem come_nodup (xs : List Int) : (comeL xs).Nodup := List.nodup_range.sublist List.filter_sublist
theorem coins_one (xs : List Int) : ∀ x ∈ coinsP xs, x.2.length = 1 := by
  intro x hx
  obtain ⟨i, _, rfl⟩ := List.mem_map.1 hx
  rfl
theorem coins_pos (xs : List Int) : ∀ x ∈ coinsP xs, 0 < gw x := by
  intro x hx
  obtain ⟨i, h, rfl⟩ := List.mem_map.1 hx
  exact (mem_come.1 h).2

/-- packages weigh what their symbols weigh -/
def heavy (f : Nat → Int) (x : Pg) : Prop := gw x = (x.2.map f).sum
theorem prsP_heavy (f : Nat → Int) : ∀ l : List Pg, (∀ x ∈ l, heavy f x) → ∀ x ∈ prsP l, heavy f x := two_rec (fun _ x hx => by cases hx) (fun a _ x hx => by cases hx) (fun a b r ih h x hx => by
  rw [prsP] at hx
  have ha := h a (by simp)
  have hb := h b (by simp)
  rcases List.mem_cons.1 hx with rfl | hx
  · show gw a + gw b = ((a.2 ++ b.2).map f).sum
    rw [List.map_append, List.sum_append, ← ha, ← hb]
  · exact ih (fun y hy => h y (by simp [hy])) x hx)
theorem rowP_heavy (f : Nat → Int) {cs : List Pg} (h : ∀ x ∈ cs, heavy f x) : ∀ i, ∀ x ∈ rowP cs i, heavy f x := by
  intro i
  induction i with
  | zero => intro x hx; cases hx
  | succ i ih =>
    intro x hx
    rcases List.mem_append.1 ((ssort_perm _).mem_iff.1 hx) with hx | hx
    · exact h x hx
    · exact prsP_heavy f _ ih x hx
theorem flat_heavy (f : Nat → Int) : ∀ {l : List Pg}, (∀ x ∈ l, heavy f x) → ((flat l).map f).sum = (l.map gw).sum := by
  intro l
  induction l with
  | nil => intro _; rfl
  | cons a l ih =>
    intro h
    rw [flat_cons, List.map_append, List.sum_append, ih (fun x hx => h x (by simp [hx])), List.map_cons, List.sum_cons, h a (by simp)]
theorem sum_zero {α : Type} (l : List α) : (l.map fun _ => (0 : Int)).sum = 0 := by
  induction l with
  | nil => rfl
  | cons a l ih => simpa using ih
theorem sum_at (f : Nat → Int) (a : Nat) : ∀ n, ((List.range n).map fun i => if a = i then f i else 0).sum = if a < n then f a else 0 := by
  intro n
  induction n with
  | zero => simp
  | succ n ih =>
    rw [List.range_succ, List.map_append, List.sum_append, ih]
    simp only [List.map_cons, List.map_nil, List.sum_cons, List.sum_nil]
    by_cases h : a = n
    · subst h; rw [if_neg (by omega), if_pos rfl, if_pos (by omega)]; omega
    · rw [if_neg h]
      by_cases h2 : a < n
      · rw [if_pos h2, if_pos (by omega)]; omega
      · rw [if_neg h2, if_neg (by omega)]; omega
theorem sum_addI {α : Type} (g h : α → Int) (l : List α) : (l.map fun i => g i + h i).sum = (l.map g).sum + (l.map h).sum := by
  induction l with
  | nil => rfl
  | cons a l ih => simp only [List.map_cons, List.sum_cons]; rw [ih]; omega
theorem sum_count (f : Nat → Int) (n : Nat) : ∀ (l : List Nat), (∀ s ∈ l, s < n) → ((List.range n).map fun i => (l.count i : Int) * f i).sum = (l.map f).sum := by
  intro l
  induction l with
  | nil => intro _; simp [sum_zero]
  | cons a l ih =>
    intro h
    rw [List.map_cons, List.sum_cons, ← ih (fun s hs => h s (by simp [hs]))]
    have : (fun i => ((a :: l).count i : Int) * f i) = fun i => (if a = i then f i else 0) + (l.count i : Int) * f i := by
      funext i
      rw [List.count_cons]
      by_cases e : a = i
      · subst e; simp [Int.add_mul]; omega
      · simp [e]
    rw [this, sum_addI, sum_at, if_pos (h a (by simp))]

/-- row a by row b, in the front of n -/
def dotN (a b : List Int) (n : Nat) : Int := ((List.range n).map fun i => a.getD i 0 * b.getD i 0).sum
theorem dotN_succ (a b : List Int) (n : Nat) : dotN a b (n + 1) = dotN a b n + a.getD n 0 * b.getD n 0 := by
  simp [dotN, List.range_succ]
theorem lenP_length (xs : List Int) (m : Nat) : (lenP xs m).length = xs.length := mapR_length _ _
theorem lenP_getD {xs : List Int} {m i : Nat} (h : i < xs.length) : (lenP xs m).getD i 0 = lenF xs m i := getD_mapR (f := fun i => (lenF xs m i : Int)) h

theorem heavy_coins (xs : List Int) : ∀ x ∈ coinsP xs, heavy (fun i => xs.getD i 0) x := by
  intro x hx
  obtain ⟨i, _, rfl⟩ := List.mem_map.1 hx
  simp [heavy, gw]

theorem flat_lt {cs : List Pg} {n : Nat} (h : ∀ x ∈ cs, ∀ s ∈ x.2, s < n) : ∀ i, ∀ x ∈ rowP cs i, ∀ s ∈ x.2, s < n := by
  have hp : ∀ l : List Pg, (∀ x ∈ l, ∀ s ∈ x.2, s < n) → ∀ x ∈ prsP l, ∀ s ∈ x.2, s < n := two_rec (fun _ x hx => by cases hx) (fun a _ x hx => by cases hx) (fun a b r ih h x hx => by
    rw [prsP] at hx
    have ha := h a (by simp)
    have hb := h b (by simp)
    rcases List.mem_cons.1 hx with rfl | hx
    · intro s hs
      rcases List.mem_append.1 hs with hs | hs
      · exact ha s hs
      · exact hb s hs
    · exact ih (fun y hy => h y (by simp [hy])) x hx)
  intro i
  induction i with
  | zero => intro x hx; cases hx
  | succ i ih =>
    intro x hx
    rcases List.mem_append.1 ((ssort_perm _).mem_iff.1 hx) with hx | hx
    · exact h x hx
    · exact hp _ ih x hx

theorem dot_cost (xs : List Int) (m : Nat) : dotN (lenP xs m) xs xs.length = costD xs m := by
  have hl : (ssort idI (xs.filter (0 < ·))).length = (comeL xs).length := by rw [ssort_length, filter_length]
  unfold costD
  simp only [hl]
  have e0 : dotN (lenP xs m) xs xs.length = ((List.range xs.length).map fun i => (lenF xs m i : Int) * xs.getD i 0).sum := by
    unfold dotN
    congr 1
    refine List.map_congr_left fun i hi => ?_
    rw [lenP_getD (List.mem_range.1 hi)]
  rw [e0]
  by_cases hc : (comeL xs).length < 2
  · rw [if_pos hc, perm_sum (ssort_perm _), ← coins_w, ← flat_heavy (fun i => xs.getD i 0) (heavy_coins xs), coins_flat]
    rw [← sum_count (fun i => xs.getD i 0) xs.length (comeL xs) (fun s hs => (mem_come.1 hs).1)]
    congr 1
    refine List.map_congr_left fun i hi => ?_
    congr 2
    unfold lenF
    rw [if_pos hc]
    by_cases h0 : 0 < xs.getD i 0
    · rw [if_pos h0, count_nodup (come_nodup xs) (mem_come.2 ⟨List.mem_range.1 hi, h0⟩)]
    · rw [if_neg h0, List.count_eq_zero.2 (fun h => h0 (mem_come.1 h).2)]
  · rw [if_neg hc, ← coins_w, ← rowP_w, ← List.map_take, ← flat_heavy (fun i => xs.getD i 0) (fun x hx => rowP_heavy _ (heavy_coins xs) m x (List.mem_of_mem_take hx))]
    rw [← sum_count (fun i => xs.getD i 0) xs.length _ (fun s hs => ?_)]
    · congr 1
      refine List.map_congr_left fun i hi => ?_
      unfold lenF
      rw [if_neg hc]
    · obtain ⟨x, hx, hs⟩ := List.mem_flatMap.1 hs
      refine flat_lt (cs := coinsP xs) (n := xs.length) ?_ m x (List.mem_of_mem_take hx) s hs
      intro x hx s hs
      obtain ⟨i, hi, rfl⟩ := List.mem_map.1 hx
      have : s = i := by simpa using hs
      subst this
      exact (mem_come.1 hi).1

/-- of each symbol that comes a length, from 1 to the bound; of others none -/
theorem lenF_ok {xs : List Int} {m : Nat} (h : (comeL xs).length ≤ 2 ^ m) (hm : 1 ≤ m) {i : Nat} (hi : i < xs.length) : lenF xs m i ≤ m ∧ (0 < lenF xs m i ↔ 0 < xs.getD i 0) := by
  unfold lenF
  by_cases hc : (comeL xs).length < 2
  · rw [if_pos hc]; split <;> omega
  · rw [if_neg hc]
    obtain ⟨h1, h2, _⟩ := full (cs := coinsP xs) (by rw [coins_length]; omega) (coins_pos xs) (coins_one xs) (by rw [coins_flat]; exact come_nodup xs) (L := m) (by rw [coins_length]; exact h)
    rw [coins_length, coins_flat] at h1 h2
    by_cases hx : 0 < xs.getD i 0
    · have := h1 i (mem_come.2 ⟨hi, hx⟩); omega
    · have := h2 i (fun h => hx (mem_come.1 h).2); omega
/-- all of the room is used -/
theorem lenF_full {xs : List Int} {m : Nat} (h : (comeL xs).length ≤ 2 ^ m) (hc : 2 ≤ (comeL xs).length) (K : Nat) (hK : m ≤ K) : ((comeL xs).map fun i => 2 ^ (K - lenF xs m i)).sum = 2 ^ K := by
  obtain ⟨_, _, h3⟩ := full (cs := coinsP xs) (by rw [coins_length]; omega) (coins_pos xs) (coins_one xs) (by rw [coins_flat]; exact come_nodup xs) (L := m) (by rw [coins_length]; exact h)
  rw [coins_length, coins_flat] at h3
  rw [← h3 K hK]
  congr 1
  refine List.map_congr_left fun i hi => ?_
  unfold lenF
  rw [if_neg (by omega)]
/-- a sum over all places is one over those that come -/
theorem come_sum (xs : List Int) (p : Nat → Bool) (g : Nat → Nat) (n : Nat) : ((List.range n).map fun i => if p i then g i else 0).sum = (((List.range n).filter p).map g).sum := by
  generalize List.range n = l
  induction l with
  | nil => rfl
  | cons a l ih =>
    rw [List.map_cons, List.sum_cons, ih, List.filter_cons]
    cases p a <;> simp
theorem costD_wide {xs : List Int} {m : Nat} (h : (comeL xs).length ≤ 2 ^ m) : costD xs (m + 1) ≤ costD xs m := by
  unfold costD
  have hl : (ssort idI (xs.filter (0 < ·))).length = (comeL xs).length := by rw [ssort_length, filter_length]
  simp only [hl]
  split
  · exact Int.le_refl _
  · rename_i hc
    have he := rowP_enough (cs := coinsP xs) (by rw [coins_length]; omega) (L := m) (by rw [coins_length]; exact h)
    have e : (rowP (coinsP xs) m).length = (rowD (ssort idI (xs.filter (0 < ·))) m).length := by rw [← coins_w, ← rowP_w, List.length_map]
    rw [e, coins_length] at he
    have hr := row_more (ssort_srt (k := idI) (xs.filter (0 < ·))) m
    exact take_ew _ _ _ he (by omega) (fun k hk => hr.2 k (by omega))
theorem costD_same {n : Nat} (h1 : 1 ≤ n) (c : Int) (hc : 0 < c) : costD (List.replicate (2 ^ n) c) n = n * (2 ^ n * c) := by
  have hf : (List.replicate (2 ^ n) c).filter (0 < ·) = List.replicate (2 ^ n) c := List.filter_eq_self.2 (fun a ha => by rw [(List.mem_replicate.1 ha).2]; simpa using hc)
  have hs : ssort idI (List.replicate (2 ^ n) c) = List.replicate (2 ^ n) c := ssort_srt_id (List.pairwise_replicate.2 (Or.inr (Int.le_refl _)))
  have h2 : 2 ^ 1 ≤ 2 ^ n := Nat.pow_le_pow_right (by omega) h1
  unfold costD
  simp only [hf, hs, List.length_replicate]
  rw [if_neg (by omega)]
  obtain ⟨e1, e2⟩ := row_same (l := List.replicate (2 ^ n) c) (n := n) (by simp) n (Nat.le_refl _)
  rw [Nat.sub_self] at e1
  rw [List.take_of_length_le (by omega), e2]
  congr 1
  have : ∀ k : Nat, (List.replicate k c).sum = k * c := by
    intro k
    induction k with
    | zero => simp
    | succ k ih => rw [List.replicate_succ, List.sum_cons, ih, Int.natCast_succ, Int.add_mul]; omega
  rw [this]
  simp
end Go.Proofs.Ythdmmmfgjmmelaa

/- Best codes: the document's Least. Own work. -/
namespace Go.Proofs.Ythdmmmfgjmmelaa
open Go Go.Proofs
set_option linter.unusedVariables false
set_option linter.unusedSimpArgs false
attribute [local irreducible] apK cpK mkK br

section
variable {F0 : List Nat} {w0 w : World} {ps rest : List As} {s : Sl} {l : List Int}

/-- the sum of the row's front -/
theorem troveref6_Least.sum {t7 t8 : Sl} {l r : List Int} {K : Ending → World → Prop} (h : St F0 w0 w ps) [Rdb F0 w0 t8 ps 1 (ivs .i64 r)] (hl : t7.len ≤ 1000) (h2 : 1 ≤ t7.len) (hr : r.length ≤ 10000) (hb : ∀ x ∈ r, 0 ≤ x ∧ x ≤ 1099511627776)
    (hk : ∀ w', St F0 w0 w' ps → K (.returned (.tuple ⟨[.int .i64 ((r.take (2 * t7.len - 2)).sum), .int .i64 0]⟩)) w') :
    troveref6_Least.j5 t7 t8 (fun v w' => K (.returned v) w') w := by
  have hl8 := (h.rdb t8).1
  rw [ivs_length] at hl8
  unfold troveref6_Least.j5 troveref6_Least.j6 troveref6_Least.j8
  have sb : ∀ k, k ≤ r.length → 0 ≤ (r.take k).sum ∧ (r.take k).sum ≤ 1099511627776 * k := by
    intro k
    induction k with
    | zero => intro _; simp
    | succ k ih =>
      intro hk
      have := ih (by omega)
      have h3 := hb r[k] (List.getElem_mem (by omega))
      rw [List.take_succ_eq_append_getElem (by omega), List.sum_append]
      simp
      omega
  refine loop2 (fun (k : Nat) (c k' : Int) w' => k' = k ∧ k ≤ 2 * t7.len - 2 ∧ k ≤ r.length ∧ c = (r.take k).sum ∧ St F0 w0 w' ps) (fun k => 2 * t7.len - 2 - k) 0 ⟨rfl, by omega, by omega, by simp, h⟩ ?_
  clear h
  rintro k c k' wL I μ ⟨rfl, hk1, hk2, rfl, h⟩ hin
  unfold troveref6_Least.b1
  have fin : (k = 2 * t7.len - 2 ∨ k = r.length) → troveref6_Least.j7 (r.take k).sum (fun v w' => K (.returned v) w') wL := by
    intro e
    unfold troveref6_Least.j7
    have : r.take (2 * t7.len - 2) = r.take k := by
      rcases e with e | e
      · rw [e]
      · rw [List.take_of_length_le (by omega), List.take_of_length_le (by omega)]
    rw [this] at hk
    exact hk wL h
  refine lt_as (wrap_i64 (by omega) (by omega)) ?_
  refine lt_as (wrap_i64 (by omega) (by omega)) ?_
  refine br_d (fun g1 => ?_) (fun g1 => fin (Or.inl (by omega)))
  refine br_d (fun g2 => ?_) (fun g2 => fin (Or.inr (by omega)))
  have hkr : k < r.length := by omega
  refine h.lx (s := t8) k rfl hkr ?_
  have hs := sb k (by omega)
  have h3 := hb r[k] (List.getElem_mem hkr)
  have eg : r.getD k 0 = r[k] := by rw [List.getD, List.getElem?_eq_getElem hkr]; rfl
  rw [eg]
  refine lt_as (wrap_i64 (by omega) (by omega)) ?_
  refine lt_as (wrap_i64 (by omega) (by omega)) ?_
  refine ⟨⟨rfl, rfl⟩, hin (k + 1) _ _ _ ⟨by omega, by omega, by omega, ?_, h⟩ (by omega)⟩
  rw [List.take_succ_eq_append_getElem hkr, List.sum_append]
  simp

theorem wrap_u64t {x : Int} (h0 : 0 ≤ x) (h1 : x < 18446744073709551616) : IntKind.u64.wrap x = x := by
  rw [wrap_uns rfl]
  exact Int.emod_eq_of_lt h0 h1
theorem rowD_b15 {l : List Int} (h : ∀ x ∈ l, 0 ≤ x ∧ x ≤ 16777216) {i : Nat} (hi : i ≤ 15) : ∀ x ∈ rowD l i, 0 ≤ x ∧ x ≤ 549755813888 := by
  intro x hx
  have h1 := rowD_b (M := 16777216) (by decide) h i x hx
  have h2 : 2 ^ i ≤ 2 ^ 15 := Nat.pow_le_pow_right (by decide) hi
  have h3 : (2 : Nat) ^ 15 = 32768 := rfl
  rw [h3] at h2
  generalize 2 ^ i = q at h1 h2
  omega

/-- the rows, one of the other -/
theorem troveref6_Least.rows {t7 : Sl} {m : Nat} {K : Ending → World → Prop} (h : St F0 w0 w ps) [Rdb F0 w0 t7 ps 1 (ivs .i64 l)] (hl : l.length ≤ 300) (hl1 : 1 ≤ l.length) (hm : m ≤ 15) (hb : ∀ x ∈ l, 0 ≤ x ∧ x ≤ 16777216)
    (hk : ∀ w', St F0 w0 w' ps → K (.returned (.tuple ⟨[.int .i64 (((rowD l m).take (2 * l.length - 2)).sum), .int .i64 0]⟩)) w') :
    troveref6_Least.j4 (m : Int) t7 ⟨none, 0, 0⟩ (fun v w' => K (.returned v) w') w := by
  have hl7 := (h.rdb t7).1
  rw [ivs_length] at hl7
  unfold troveref6_Least.j4 troveref6_Least.j9
  refine loop2 (fun (i : Nat) (t8 : Sl) (i' : Int) w' => i' = i ∧ i ≤ m ∧ St F0 w0 w' (ownA 1 t8 (ivs .i64 (rowD l i)) :: ps)) (fun i => m - i) 0 ⟨rfl, by omega, h.nil 1⟩ ?_
  clear h
  rintro i t8 i' wL I μ ⟨rfl, hi, h⟩ hin
  have hl8 := h.len
  rw [ivs_length] at hl8
  have hle := rowD_le l i
  unfold troveref6_Least.b2
  refine br_d (fun g1 => ?_) (fun g1 => ?_)
  · unfold troveref6_Least.j10
    have hvb := rowD_b15 hb (i := i) (by omega)
    refine h.clone (s2 := t7) (by omega) fun t10 w h => ?_
    unfold troveref6_Least.j12 troveref6_Least.j14
    refine loop2 (fun (k : Nat) (t10 : Sl) (k' : Int) w' => k' = ((2 * k : Nat) : Int) ∧ k ≤ (prs (rowD l i)).length ∧ St F0 w0 w' (ownA 1 t10 (ivs .i64 (insAll l ((prs (rowD l i)).take k))) :: ownA 1 t8 (ivs .i64 (rowD l i)) :: ps)) (fun k => (prs (rowD l i)).length - k) 0 ⟨rfl, by omega, by simpa [insAll] using h⟩ ?_
    clear h
    rintro k t10 k' wL2 I2 μ2 ⟨rfl, hk2, h⟩ hin2
    have hpl := prs_length _ (rowD l i) rfl
    unfold troveref6_Least.b3
    refine lt_as (wrap_i64 (by omega) (by omega)) ?_
    refine br_d (fun g2 => ?_) (fun g2 => ?_)
    · refine h.drewK fun w h => ?_
      have a1 := hvb _ (mem_getD (xs := rowD l i) (i := 2 * k) (by omega))
      have a2 := hvb _ (mem_getD (xs := rowD l i) (i := 2 * k + 1) (by omega))
      refine h.lx (s := t8) (2 * k) (by omega) (by omega) ?_
      refine lt_as (wrap_i64 (by omega) (by omega)) ?_
      refine h.lx (s := t8) (2 * k + 1) (by omega) (by omega) ?_
      refine lt_as (wrap_i64 (by omega) (by omega)) ?_
      refine troveref6_put.c (s := t10) h (h.cap (by decide)) (by rw [insAll_length, List.length_take]; omega) fun t w ht h => ⟨t, rfl, ?_⟩
      refine lt_as (wrap_i64 (by omega) (by omega)) ?_
      refine ⟨⟨rfl, rfl, rfl, rfl⟩, hin2 (k + 1) _ _ _ ⟨by omega, by omega, ?_⟩ (by omega)⟩
      rw [take_sn (by omega), insAll, List.foldl_append]
      rw [prs_get _ _ (by omega)]
      exact h.tail fun _ _ _ h => h.drop
    · unfold troveref6_Least.j13 troveref6_Least.j11
      refine lt_as (wrap_i64 (by omega) (by omega)) ?_
      refine ⟨⟨rfl, rfl⟩, hin (i + 1) _ _ _ ⟨by omega, by omega, ?_⟩ (by omega)⟩
      rw [List.take_of_length_le (by omega)] at h
      exact h.tail fun _ _ _ h => h.drop
  · have : i = m := by omega
    subst this
    refine troveref6_Least.sum (l := l) h (by omega) (by omega) (by omega) (fun x hx => ?_) (fun w h => ?_)
    · have := rowD_b15 hb hm x hx
      omega
    · rw [← hl7.trans (Nat.mul_one _)]
      exact hk w h.drop

/-- may counts be? -/
def goodX (xs : List Int) : Prop := xs.length ≤ 288 ∧ ∀ x ∈ xs, ¬ badN x
instance (xs : List Int) : Decidable (goodX xs) := inferInstanceAs (Decidable (_ ∧ _))
theorem not_goodX {xs : List Int} (h : ¬ goodX xs) : 288 < xs.length ∨ ∃ x ∈ xs, badN x := by
  by_cases h1 : 288 < xs.length
  · exact Or.inl h1
  · refine Or.inr (Classical.byContradiction fun h2 => h ⟨by omega, fun x hx hb => h2 ⟨x, hx, hb⟩⟩)
/-- the fault, by the document -/
def leastE (xs : List Int) (m : Int) : Int := if ¬ goodX xs ∨ m < 1 ∨ 15 < m then 1 else if 2 ^ m.toNat < (comeL xs).length then 7 else 0
theorem leastE_ok {xs : List Int} {m : Int} (h : leastE xs m = 0) : goodX xs ∧ 1 ≤ m ∧ m ≤ 15 ∧ (comeL xs).length ≤ 2 ^ m.toNat := by
  unfold leastE at h
  split at h
  · omega
  · rename_i h1
    split at h
    · omega
    · have : goodX xs := Classical.byContradiction fun h2 => h1 (Or.inl h2)
      exact ⟨this, by omega, by omega, by omega⟩
theorem come_le (xs : List Int) : (comeL xs).length ≤ xs.length := Nat.le_trans (List.length_filter_le _ _) (by simp)
theorem some_b {xs : List Int} (hg : goodX xs) : ∀ x ∈ ssort idI (xs.filter (0 < ·)), 0 ≤ x ∧ x ≤ 16777216 := by
  intro x hx
  have := List.mem_filter.1 ((ssort_perm _).mem_iff.1 hx)
  have h1 := hg.2 x this.1
  unfold badN at h1
  omega

theorem troveref6_Plain.few {xs : List Int} {s : Sl} {K : Ending → World → Prop} (h : St F0 w0 w ps) [Rdb F0 w0 s ps 1 (ivs .i64 xs)] (hg : goodX xs) (hf : (comeL xs).length < 2)
    (hk : ∀ w', St F0 w0 w' ps → K (.returned (.int .i64 ((ssort idI (xs.filter (0 < ·))).sum))) w') : Calls Try.prog 45 ⟨[.slice s.a s.len s.cap]⟩ w K := by
  refine ret_k (troveref6_Plain.ok _ _ _ ?_)
  unfold troveref6_Plain
  have hlg := hg.1
  refine troveref6_some.c (s := s) h (by omega) fun t w ht hc h => ⟨t, rfl, ?_⟩
  have hsl : (ssort idI (xs.filter (0 < ·))).length = (comeL xs).length := by rw [ssort_length, filter_length]
  rw [filter_length] at ht
  unfold troveref6_Plain.j1
  have hs1 : ∀ l : List Int, l.length = 1 → l.sum = l.getD 0 0 := by
    intro l h
    obtain ⟨x, rfl⟩ := List.length_eq_one_iff.1 h
    simp
  refine br_b (fun g => ?_) (fun g => ?_)
  · have : (t.len : Int) = 1 := by simpa using g
    refine h.lx (s := t) 0 rfl (by omega) ?_
    have := hk w h.drop
    rw [hs1 _ (by omega)] at this
    exact this
  · have : (t.len : Int) ≠ 1 := by simpa using g
    unfold troveref6_Plain.j2
    refine loop2 (fun (k : Nat) (l' : Sl) (c : Int) w' => l' = t ∧ c = 0 ∧ St F0 w0 w' (ownA 1 t (ivs .i64 (ssort idI (xs.filter (0 < ·)))) :: ps)) (fun k => k) 0 ⟨rfl, rfl, h⟩ ?_
    rintro k l' c wL I μ ⟨rfl, rfl, h⟩ hin
    unfold troveref6_Plain.b1
    refine br_d (fun g1 => by omega) (fun g1 => ?_)
    unfold troveref6_Plain.j3
    have hnil : ssort idI (xs.filter (0 < ·)) = [] := List.length_eq_zero_iff.1 (by omega)
    have := hk wL h.drop
    rw [hnil] at this
    exact this

theorem troveref6_Least.c {xs : List Int} {s : Sl} {m : Int} {K : Ending → World → Prop} (h : St F0 w0 w ps) [Rdb F0 w0 s ps 1 (ivs .i64 xs)]
    (hk : ∀ w', St F0 w0 w' ps → K (.returned (.tuple ⟨[.int .i64 (if leastE xs m = 0 then costD xs m.toNat else 0), .int .i64 (leastE xs m)]⟩)) w') : Calls Try.prog 12 ⟨[.slice s.a s.len s.cap, .int .i64 m]⟩ w K := by
  refine ret_k (troveref6_Least.ok _ _ _ _ ?_)
  unfold troveref6_Least troveref6_Least.j1
  have no1 : ∀ w, (¬ goodX xs ∨ m < 1 ∨ 15 < m) → St F0 w0 w ps → K (.returned (.tuple ⟨[.int .i64 0, .int .i64 1]⟩)) w := by
    intro w e h
    have := hk w h
    have e1 : leastE xs m = 1 := by unfold leastE; rw [if_pos e]
    rw [e1] at this
    exact this
  refine troveref6_Check.c (s := s) h fun e w hg hb h => ⟨e, rfl, ?_⟩
  refine br_b (fun g => ?_) (fun g => ?_)
  · have g : e ≠ 0 := by simpa using g
    exact no1 w (Or.inl fun h => g (hg h)) h
  · have g : e = 0 := by simpa using g
    have hgood : goodX xs := Classical.byContradiction fun hn => by have := hb (not_goodX hn); omega
    refine br_d (fun g1 => no1 w (by omega) h) (fun g1 => ?_)
    refine br_d (fun g2 => no1 w (by omega) h) (fun g2 => ?_)
    unfold troveref6_Least.j2
    have hlg := hgood.1
    refine troveref6_some.c (s := s) h (by omega) fun t w ht hc h => ⟨t, rfl, ?_⟩
    have hsl : (ssort idI (xs.filter (0 < ·))).length = (comeL xs).length := by rw [ssort_length, filter_length]
    have hcl := come_le xs
    rw [filter_length] at ht
    obtain ⟨M, rfl⟩ : ∃ M : Nat, m = M := ⟨m.toNat, by omega⟩
    refine lt_as (wrap_u64t (by omega) (by omega)) ⟨by omega, ?_⟩
    have h15 : 2 ^ M ≤ 2 ^ 15 := Nat.pow_le_pow_right (by decide) (by omega)
    have hM : shlV .i64 1 (M : Int) = ((2 ^ M : Nat) : Int) := by
      rw [shlV_lit .i64 (t := M) rfl (by show M ≤ 64; omega) (by decide) (by
        have e : ((1 : Int) * 2 ^ M) = ((2 ^ M : Nat) : Int) := by simp
        rw [e]
        show ((2 ^ M : Nat) : Int) < 9223372036854775808
        have : (2 : Nat) ^ 15 = 32768 := rfl
        omega)]
      simp
    refine lt_as hM ?_
    have eL : leastE xs M = if 2 ^ M < (comeL xs).length then 7 else 0 := by
      unfold leastE
      rw [if_neg (fun e => by
        rcases e with e | e | e
        · exact e hgood
        · omega
        · omega), Int.toNat_natCast]
    refine br_d (fun g3 => ?_) (fun g3 => ?_)
    · have e7 : leastE xs M = 7 := by rw [eL, if_pos (by omega)]
      have := hk w h.drop
      rw [e7] at this
      exact this
    · have e0 : leastE xs M = 0 := by rw [eL, if_neg (by omega)]
      rw [e0] at hk
      simp only [if_pos, Int.toNat_natCast] at hk
      unfold costD at hk
      simp only [hsl] at hk
      unfold troveref6_Least.j3
      refine br_d (fun g4 => ?_) (fun g4 => ?_)
      · refine troveref6_Plain.few (s := s) h hgood (by omega) fun w h => ⟨_, rfl, ?_⟩
        have := hk w h.drop
        rw [if_pos (by omega)] at this
        exact this
      · refine troveref6_Least.rows (l := ssort idI (xs.filter (0 < ·))) h (by omega) (by omega) (by omega) (some_b hgood) fun w h => ?_
        have := hk w h.drop
        rw [if_neg (by omega)] at this
        rw [hsl]
        exact this
end
end Go.Proofs.Ythdmmmfgjmmelaa

/- Packages in memory: rows put together, pairs. Own work. -/
namespace Go.Proofs.Ythdmmmfgjmmelaa
open Go Go.Proofs
set_option linter.unusedVariables false
set_option linter.unusedSimpArgs false
attribute [local irreducible] apK cpK mkK br

section
variable {F0 : List Nat} {w0 w : World} {ps rest : List As} {s : Sl}

/-- the front of a row of one's own -/
theorem St.front {sz : Nat} {cs : List Value} (h : St F0 w0 w (ownA sz s cs :: ps)) (m : Nat) (hm : m ≤ s.len) : St F0 w0 w (ownA sz ⟨cutA s.a s.cap 0 sz, m - 0, s.cap - 0⟩ (cs.take (m * sz)) :: ps) := by
  refine h.mp ?_
  rintro F (⟨rfl, rfl, rfl⟩ | ⟨ob, rs, h1, hb, h2, h3, rfl⟩)
  · have : m = 0 := by simpa using hm
    subst this
    exact Or.inl ⟨rfl, by simp, rfl⟩
  · refine Or.inr ⟨ob, cs.drop (m * sz) ++ rs, ?_, ?_, ?_, ?_, rfl⟩
    · show cutA s.a s.cap 0 sz = _
      unfold cutA
      rw [h1]
      split
      · rfl
      · rw [Option.map_some, add_mk, Nat.zero_mul]
    · rw [← List.append_assoc, List.take_append_drop]; exact hb
    · rw [List.length_take, h2]
      exact Nat.min_eq_left (Nat.mul_le_mul_right _ hm)
    · rw [← List.append_assoc, List.take_append_drop]; exact h3

theorem slices_Grow_int.c {n : Nat} {K : Ending → World → Prop} (h : St F0 w0 w ps) (hn : n ≤ 1000000)
    (hk : ∀ t w', t.len = 0 → St F0 w0 w' (ownA 1 t (ivs .i64 []) :: ps) → K (.returned (.slice t.a t.len t.cap)) w') : Calls Try.prog 134 ⟨[.slice none 0 0, .int .i64 n]⟩ w K := by
  refine ret_k (slices_Grow_int.ok ⟨none, 0, 0⟩ _ _ _ ?_)
  unfold slices_Grow_int
  dsimp only
  refine br_d (fun g => by omega) (fun _ => ?_)
  refine lt_as (wrap_i64 (by omega) (by omega)) ?_
  refine lt_as (wrap_i64 (by omega) (by omega)) ?_
  have e : (n : Int) - (((0 : Nat) : Int) - ((0 : Nat) : Int)) = n := by simp
  rw [e]
  have h := h.nil 1
  refine br_d (fun g => ?_) (fun g => hk ⟨none, 0, 0⟩ w rfl h)
  refine bd_i (n := 0) rfl (Nat.le_refl _) (lt_i ?_)
  have he : Elt Try.prog 3 (.int .i64 0) := elt_int
  dsimp only
  refine ⟨⟨by omega, by omega, ?_, by omega⟩, ?_⟩
  · have hb := (Elt.bytes (P := Try.prog) (e := 3) (z := .int .i64 0))
    have h3 : (n : Int) * (Try.prog.bytesOf 3 : Int) ≤ 1000000 * 16 := Int.mul_le_mul (by omega) (by omega) (by omega) (by omega)
    exact Int.le_trans h3 (by decide)
  rw [Int.toNat_natCast, he.zc, repL_one]
  refine St.app (s := ⟨none, 0, 0⟩) (cs2 := List.replicate n (.int .i64 0)) (z := .int .i64 0) h rfl (by simp) (by rw [List.length_nil]; omega) (fun v hv => ?_) fun s6 w h => ?_
  · have hv : v ∈ List.replicate n (Value.int .i64 0) := by simpa using hv
    rw [(List.mem_replicate.1 hv).2]
    trivial
  refine bd_i (n := 0) rfl (Nat.zero_le _) (lt_i ?_)
  refine hk ⟨cutA s6.a s6.cap 0 1, 0 - 0, s6.cap - 0⟩ w rfl ?_
  have h := h.front 0 (Nat.zero_le _)
  rw [Nat.zero_mul, List.take_zero] at h
  exact h

theorem Rd.lsl2 {L : List (Sl × List Int)} {i : Int} {K : Sl → Prop} (h : Rd w 1 s (sls L)) (j : Nat) (hi : i = j) (hj : j < L.length) (hk : K L[j].1) : ixS s.a s.len i 1 fun a => ldL w a K := by
  subst hi
  have hl := h.1
  rw [show (sls L).length = L.length by simp [sls]] at hl
  refine h.ix (by decide) (by omega) (by omega) fun a ha => ?_
  rw [show ((j : Int)).toNat * 1 = j by omega]
  exact ldL_c (by rw [h.cell ha (by simp [sls]; omega)]; simp [sls, hj]) hk

def catL (L : List (Sl × List Int)) : List Int := L.flatMap (·.2)
theorem catL_snoc (L : List (Sl × List Int)) {i : Nat} (h : i < L.length) : catL (L.take (i + 1)) = catL (L.take i) ++ L[i].2 := by
  unfold catL
  rw [List.take_succ_eq_append_getElem h, List.flatMap_append]
  simp
theorem catL_le (L : List (Sl × List Int)) (i : Nat) : (catL (L.take i)).length ≤ (catL L).length := by
  have : catL L = catL (L.take i) ++ catL (L.drop i) := by
    unfold catL
    rw [← List.flatMap_append, List.take_append_drop]
  rw [this, List.length_append]
  omega

theorem slices_Concat_int.c {L : List (Sl × List Int)} {K : Ending → World → Prop} (h : St F0 w0 w ps) [Rdb F0 w0 s ps 1 (sls L)] (hL : ∀ y ∈ L, ∀ w, St F0 w0 w ps → Rd w 1 y.1 (ivs .i64 y.2)) (hn : L.length ≤ 1000) (hlen : (catL L).length ≤ 1000000)
    (hk : ∀ t w', t.len = (catL L).length → St F0 w0 w' (ownA 1 t (ivs .i64 (catL L)) :: ps) → K (.returned (.slice t.a t.len t.cap)) w') : Calls Try.prog 88 ⟨[.slice s.a s.len s.cap]⟩ w K := by
  have hl := (h.rdb s).1
  rw [show (sls L).length = L.length by simp [sls]] at hl
  refine ret_k (slices_Concat_int.ok _ _ _ ?_)
  unfold slices_Concat_int slices_Concat_int.j1 slices_Concat_int.j6
  refine loop2 (fun (i : Nat) (z : Int) (i' : Int) w' => i' = i ∧ i ≤ L.length ∧ z = (catL (L.take i)).length ∧ St F0 w0 w' ps) (fun i => L.length - i) 0 ⟨rfl, by omega, by simp [catL], h⟩ ?_
  clear h
  rintro i z i' wL I μ ⟨rfl, hi, rfl, h⟩ hin
  have hle := catL_le L i
  unfold slices_Concat_int.b2
  refine br_d (fun g => ?_) (fun g => ?_)
  · have hix : i < L.length := by omega
    have hsn := catL_snoc L hix
    have hle2 := catL_le L (i + 1)
    refine (h.rdb s).lsl2 i rfl hix ?_
    have hy := (hL L[i] (List.getElem_mem hix) _ h).1
    rw [ivs_length] at hy
    rw [hsn, List.length_append] at hle2
    refine lt_as (wrap_i64 (by omega) (by omega)) ?_
    refine br_d (fun g => by omega) (fun _ => ?_)
    refine lt_as (wrap_i64 (by omega) (by omega)) ?_
    refine ⟨⟨rfl, rfl, rfl⟩, hin (i + 1) _ _ _ ⟨by omega, by omega, ?_, h⟩ (by omega)⟩
    rw [hsn, List.length_append]
    omega
  · have : i = L.length := by omega
    subst this
    rw [List.take_length]
    unfold slices_Concat_int.j2
    refine slices_Grow_int.c h hlen fun t w ht h => ⟨t, rfl, ?_⟩
    unfold slices_Concat_int.j3 slices_Concat_int.j5
    refine loop2 (fun (i : Nat) (o : Sl) (i' : Int) w' => i' = i ∧ i ≤ L.length ∧ St F0 w0 w' (ownA 1 o (ivs .i64 (catL (L.take i))) :: ps)) (fun i => L.length - i) 0 ⟨rfl, by omega, by simpa [catL] using h⟩ ?_
    clear h
    rintro i o i' wL I μ ⟨rfl, hi, h⟩ hin
    have hle := catL_le L i
    unfold slices_Concat_int.b1
    refine br_d (fun g => ?_) (fun g => ?_)
    · have hix : i < L.length := by omega
      have hsn := catL_snoc L hix
      have hle2 := catL_le L (i + 1)
      rw [hsn, List.length_append] at hle2
      refine (h.rdb s).lsl2 i rfl hix ?_
      haveI : Rdb F0 w0 L[i].1 ps 1 (ivs .i64 L[i].2) := ⟨fun h => hL L[i] (List.getElem_mem hix) _ h⟩
      refine h.appI (s := o) (s2 := L[i].1) (k := .i64) (by omega) fun o2 w h => ?_
      refine lt_as (wrap_i64 (by omega) (by omega)) ?_
      refine ⟨⟨rfl, rfl⟩, hin (i + 1) _ _ _ ⟨by omega, by omega, ?_⟩ (by omega)⟩
      rw [hsn]
      exact h
    · have : i = L.length := by omega
      subst this
      rw [List.take_length] at h
      unfold slices_Concat_int.j4
      have := h.len
      rw [ivs_length] at this
      exact hk o wL (by omega) h

theorem blk_rdb {nb n : Nat} {l : List Value} [PkB nb ps l rest] (hn : l.length = n) : Rdb F0 w0 ⟨some ⟨nb, 0, none⟩, n, n⟩ ps 1 l := ⟨fun h => by
  have hb := (h.toB nb).blk
  refine ⟨by rw [Nat.mul_one]; exact hn, fun i hi => ⟨_, rfl, ?_⟩⟩
  rw [add_mk, Nat.zero_add, hb.cell]⟩

theorem slices_Concat_int.c2 {nb : Nat} {A B : Sl} {xs ys : List Int} {K : Ending → World → Prop} (h : St F0 w0 w ps) [PkB nb ps [.slice A.a A.len A.cap, .slice B.a B.len B.cap] rest] [ha : Rdb F0 w0 A ps 1 (ivs .i64 xs)] [hb : Rdb F0 w0 B ps 1 (ivs .i64 ys)] (hlen : xs.length + ys.length ≤ 1000000)
    (hk : ∀ t w', t.len = xs.length + ys.length → St F0 w0 w' (ownA 1 t (ivs .i64 (xs ++ ys)) :: ps) → K (.returned (.slice t.a t.len t.cap)) w') : Calls Try.prog 88 ⟨[.slice (some ⟨nb, 0, none⟩) 2 2]⟩ w K := by
  haveI : Rdb F0 w0 ⟨some ⟨nb, 0, none⟩, 2, 2⟩ ps 1 (sls [(A, xs), (B, ys)]) := blk_rdb rfl
  have e : catL [(A, xs), (B, ys)] = xs ++ ys := by simp [catL]
  refine slices_Concat_int.c (s := ⟨some ⟨nb, 0, none⟩, 2, 2⟩) (L := [(A, xs), (B, ys)]) h (fun y hy w h => ?_) (by simp) (by rw [e, List.length_append]; omega) fun t w ht h => ?_
  · simp only [List.mem_cons, List.not_mem_nil, or_false] at hy
    rcases hy with rfl | rfl
    · exact ha.rd h
    · exact hb.rd h
  · rw [e] at ht h
    exact hk t w (by rw [ht, List.length_append]) h

/-! ### packs -/
/-- a pack with its symbols: weight, slice, symbols -/
abbrev Ep := Int × Sl × List Nat
def eC (x : Ep) : List Value := [.int .i64 x.1, .slice x.2.1.a x.2.1.len x.2.1.cap]
def pkE (x : Ep) : Pk := (x.1, x.2.1)
def erE (x : Ep) : Pg := (x.1, x.2.2)
instance rec_eC : Rec eC 2 := ⟨fun _ => rfl, fun x v hv => by
  simp [eC] at hv
  rcases hv with rfl | rfl <;> trivial, by decide⟩
instance elt_pack : EltR Try.prog 80 2 [.int .i64 0, .slice none 0 0] := ⟨⟨Try.t80, by kernel_rfl, rfl, by decide, by decide⟩, by kernel_rfl, rfl, by decide⟩
theorem pks_eC (L : List Ep) : pks (L.map pkE) = L.flatMap eC := by
  unfold pks
  rw [List.flatMap_map]
  rfl
abbrev nvs (l : List Nat) : List Value := ivs .i64 (l.map fun n : Nat => (n : Int))
/-- symbols' rows that can be read -/
def tabA (T : List (Sl × List Nat)) : As := allA (T.map fun x => rdA 1 x.1 (nvs x.2))
theorem St.tab : ∀ {T : List (Sl × List Nat)} {s : Sl} {xs : List Nat} {F0 : List Nat} {w0 w : World} {ps : List As}, St F0 w0 w (tabA T :: ps) → (s, xs) ∈ T → Rd w 1 s (nvs xs) := by
  intro T
  induction T with
  | nil => intro s xs F0 w0 w ps h hm; cases hm
  | cons x T ih =>
    intro s xs F0 w0 w ps h hm
    have h : St F0 w0 w (andA (rdA 1 x.1 (nvs x.2)) (tabA T) :: ps) := h
    have h := h.split
    rcases List.mem_cons.1 hm with e | hm
    · subst e; exact h.rd
    · exact ih h.drop hm
theorem tab_rdb {T : List (Sl × List Nat)} {xs : List Nat} (hm : (s, xs) ∈ T) : Rdb F0 w0 s (tabA T :: ps) 1 (nvs xs) := ⟨fun h => h.tab hm⟩
theorem St.tabI {T : List (Sl × List Nat)} {xs : List Nat} (h : St F0 w0 w (rdA 1 s (nvs xs) :: tabA T :: ps)) : St F0 w0 w (tabA ((s, xs) :: T) :: ps) := h.join

/-- all packs' symbols are in the table; none weighs too much, has too many -/
def okE (T : List (Sl × List Nat)) (M : Int) (n : Nat) (L : List Ep) : Prop := ∀ x ∈ L, (x.2.1, x.2.2) ∈ T ∧ 0 ≤ x.1 ∧ x.1 ≤ M ∧ x.2.2.length ≤ n
theorem okE.mono {T T' : List (Sl × List Nat)} {M M' : Int} {n n' : Nat} {L : List Ep} (h : okE T M n L) (hT : ∀ x ∈ T, x ∈ T') (hM : M ≤ M') (hn : n ≤ n') : okE T' M' n' L := fun x hx => by
  have := h x hx
  exact ⟨hT _ this.1, this.2.1, by omega, by omega⟩

def pairsFin (out : Sl) (i x : Int) (r : Sl) (w : World) (nx : Sl → Int → World → Prop) : Prop :=
  ((⟨[.int .i64 x, .slice r.a r.len r.cap]⟩ : Array Value)).size = 2 ∧
  lt (⟨World.heapSize w, 0, none⟩ : Addr) fun a18 =>
  lt (World.alloc w (.cells ⟨(spl [.int .i64 0, .slice none 0 0] 0 (⟨[.int .i64 x, .slice r.a r.len r.cap]⟩ : Array Value))⟩ 80)) fun w19 =>
  rdO w19 (some a18) (1 * 2) fun c20 =>
  apK Try.prog 80 w19 out.a out.len out.cap 1 c20 fun s21 w22 =>
  lt (IntKind.i64.wrap (i + 2)) fun x23 =>
  nx s21 x23 w22

theorem limit_pairs.c {L : List Ep} {T : List (Sl × List Nat)} {M : Int} {n : Nat} {K : Ending → World → Prop} (h : St F0 w0 w (tabA T :: ps)) [Rdb F0 w0 s ps 2 (L.flatMap eC)] (hL : okE T M n L) (hM : M ≤ 4611686018427387903) (hn : n ≤ 400000) (hlen : L.length ≤ 1000000)
    (hk : ∀ t w' L' T', L'.map erE = prsP (L.map erE) → (∀ x ∈ T, x ∈ T') → okE T' (2 * M) (2 * n) L' → St F0 w0 w' (ownA 2 t (L'.flatMap eC) :: tabA T' :: ps) → K (.returned (.slice t.a t.len t.cap)) w') : Calls Try.prog 39 ⟨[.slice s.a s.len s.cap]⟩ w K := by
  have hl := h.rlen (s := s)
  refine ret_k (limit_pairs.ok _ _ _ ?_)
  unfold limit_pairs limit_pairs.j1 limit_pairs.j3
  refine loop2 (fun (a : Nat × List Ep × List (Sl × List Nat)) (o : Sl) (i' : Int) w' => i' = ((2 * a.1 + 1 : Nat) : Int) ∧ 2 * a.1 ≤ L.length ∧ a.2.1.map erE = prsP ((L.map erE).take (2 * a.1)) ∧ (∀ x ∈ T, x ∈ a.2.2) ∧ okE a.2.2 (2 * M) (2 * n) a.2.1 ∧ St F0 w0 w' (ownA 2 o (a.2.1.flatMap eC) :: tabA a.2.2 :: ps)) (fun a => L.length - 2 * a.1) (0, [], T)
    ⟨rfl, by simp, by simp [prsP], fun _ h => h, fun x hx => (by cases hx), h.nil 2⟩ ?_
  clear h
  rintro ⟨k, L', T'⟩ o i' wL I μ ⟨rfl, hi, hL', hT, hok, h⟩ hin
  simp only at hi hL' hT hok h hin ⊢
  unfold limit_pairs.b1
  have hLl : L'.length = k := by
    have := congrArg List.length hL'
    rw [prsP_length, List.length_map, List.length_take, List.length_map] at this
    omega
  refine br_d (fun g => ?_) (fun g => ?_)
  · have h1 : 2 * k < L.length := by omega
    have h2 : 2 * k + 1 < L.length := by omega
    have m1 := hL L[2 * k] (List.getElem_mem h1)
    have m2 := hL L[2 * k + 1] (List.getElem_mem h2)
    haveI : Rdb F0 w0 (L[2 * k]).2.1 (tabA T' :: ps) 1 (nvs (L[2 * k]).2.2) := tab_rdb (hT _ m1.1)
    haveI : Rdb F0 w0 (L[2 * k + 1]).2.1 (tabA T' :: ps) 1 (nvs (L[2 * k + 1]).2.2) := tab_rdb (hT _ m2.1)
    have fin : ∀ (w : World) (r : Sl) (x : Int), x = (L[2 * k]).1 + (L[2 * k + 1]).1 → St F0 w0 w (ownA 2 o (L'.flatMap eC) :: ownA 1 r (ivs .i64 ((L[2 * k]).2.2.map (fun n : Nat => (n : Int)) ++ (L[2 * k + 1]).2.2.map (fun n : Nat => (n : Int)))) :: tabA T' :: ps) →
        pairsFin o ((2 * k + 1 : Nat) : Int) x r w (fun o' i'' w' => s = s ∧ I o' i'' w' ∧ μ o' i'' w' < μ o ((2 * k + 1 : Nat) : Int) wL) := by
      rintro w r x rfl h
      refine ⟨rfl, ?_⟩
      rw [← List.map_append] at h
      refine h.pushR (s := o) (x := (((L[2 * k]).1 + (L[2 * k + 1]).1, r, (L[2 * k]).2.2 ++ (L[2 * k + 1]).2.2) : Ep)) (by omega) rfl fun o2 w _ h => ?_
      refine lt_as (wrap_i64 (by omega) (by omega)) ⟨rfl, ?_⟩
      refine hin (k + 1, L' ++ [((L[2 * k]).1 + (L[2 * k + 1]).1, r, (L[2 * k]).2.2 ++ (L[2 * k + 1]).2.2)], (r, (L[2 * k]).2.2 ++ (L[2 * k + 1]).2.2) :: T') _ _ _ ⟨by simp only; omega, by simp only; omega, ?_, fun x hx => List.mem_cons_of_mem _ (hT x hx), ?_, ?_⟩ (by simp only; omega)
      · simp only
        rw [List.map_append, hL', show 2 * (k + 1) = 2 * k + 1 + 1 by omega, List.take_succ_eq_append_getElem (by rw [List.length_map]; omega), List.take_succ_eq_append_getElem (by rw [List.length_map]; omega), List.append_assoc]
        have : ∀ (X Y : List Pg), X.length % 2 = 0 → prsP (X ++ Y) = prsP X ++ prsP Y := by
          intro X Y
          exact two_rec (Q := fun X => X.length % 2 = 0 → prsP (X ++ Y) = prsP X ++ prsP Y) (fun _ => rfl) (fun a h => by simp at h) (fun a b r ih h => by
            simp only [List.length_cons] at h
            rw [List.cons_append, List.cons_append, prsP, prsP, ih (by omega), List.cons_append]) X
        rw [this _ _ (by rw [List.length_take, List.length_map, Nat.min_eq_left (by omega)]; omega)]
        simp [prsP, erE]
      · intro x hx
        rcases List.mem_append.1 hx with hx | hx
        · exact hok.mono (fun x hx => List.mem_cons_of_mem _ hx) (Int.le_refl _) (Nat.le_refl _) x hx
        · rw [List.mem_singleton] at hx
          subst hx
          refine ⟨by simp, ?_, ?_, ?_⟩
          · show 0 ≤ (L[2 * k]).1 + (L[2 * k + 1]).1; omega
          · show (L[2 * k]).1 + (L[2 * k + 1]).1 ≤ 2 * M; omega
          · show ((L[2 * k]).2.2 ++ (L[2 * k + 1]).2.2).length ≤ 2 * n; rw [List.length_append]; omega
      · exact h.tail fun _ _ _ h => h.ro.tabI
    refine h.drewK fun w h => ?_
    refine lt_as (wrap_i64 (by omega) (by omega)) ?_
    refine h.rix (s := s) (2 * k) (by omega) h1 fun a1 e1 => ?_
    refine h.rix (s := s) (2 * k + 1) (by omega) h2 fun a2 e2 => ?_
    refine lt_as (wrap_i64 (by omega) (by omega)) ?_
    refine h.rix (s := s) (2 * k) (by omega) h1 fun a3 e3 => ?_
    refine (h.rdb s).rL (v := (L[2 * k]).2.1) e3 h1 (by decide) rfl ?_
    refine h.rix (s := s) (2 * k + 1) (by omega) h2 fun a4 e4 => ?_
    refine (h.rdb s).rL (v := (L[2 * k + 1]).2.1) e4 h2 (by decide) rfl ?_
    repeat' first
      | exact fin _ _ _ rfl h.sub
      | refine (h.rdb s).rI e1 h1 (by decide) rfl ?_
      | refine (h.rdb s).rI e2 h2 (by decide) rfl ?_
      | refine lt_as (wrap_i64 (by omega) (by omega)) ?_
      | (refine h.new fun nb w h => ?_
         have h : St F0 w0 w (blkA nb [.slice (L[2 * k]).2.1.a (L[2 * k]).2.1.len (L[2 * k]).2.1.cap, .slice (L[2 * k + 1]).2.1.a (L[2 * k + 1]).2.1.len (L[2 * k + 1]).2.1.cap] :: ownA 2 o (L'.flatMap eC) :: tabA T' :: ps) := h)
      | refine slices_Concat_int.c2 (A := (L[2 * k]).2.1) (B := (L[2 * k + 1]).2.1) h (by simp only [List.length_map]; omega) fun r w _ h => ⟨r, rfl, ?_⟩
      | refine And.intro ?_ ?_
  · unfold limit_pairs.j2
    have e : prsP ((L.map erE).take (2 * k)) = prsP (L.map erE) := by
      rcases Nat.lt_or_ge (2 * k) L.length with h1 | h1
      · have h2 : L.length = 2 * k + 1 := by omega
        rw [← prsP_take, List.take_of_length_le (by rw [prsP_length, List.length_map]; omega)]
      · rw [List.take_of_length_le (by rw [List.length_map]; omega)]
    exact hk o wL L' T' (by rw [hL', e]) hT hok h
end
end Go.Proofs.Ythdmmmfgjmmelaa

/- Best codes: the lengths, what they cost. Own work. -/
namespace Go.Proofs.Ythdmmmfgjmmelaa
open Go Go.Proofs
set_option linter.unusedVariables false
set_option linter.unusedSimpArgs false
attribute [local irreducible] apK cpK mkK br

section
variable {F0 : List Nat} {w0 w : World} {ps rest : List As} {s : Sl} {xs : List Int}

theorem slices_Clone_pack.c {L : List Ep} {K : Ending → World → Prop} (h : St F0 w0 w ps) [Rdb F0 w0 s ps 2 (L.flatMap eC)] (hlen : L.length ≤ 1000000)
    (hk : ∀ t w', t.len = L.length → St F0 w0 w' (ownA 2 t (L.flatMap eC) :: ps) → K (.returned (.slice t.a t.len t.cap)) w') : Calls Try.prog 38 ⟨[.slice s.a s.len s.cap]⟩ w K := by
  refine ret_k (slices_Clone_limit_pack.ok _ _ _ ?_)
  unfold slices_Clone_limit_pack
  refine br_b (fun g => ?_) (fun g => ?_)
  · have : L = [] := h.isnil (s := s) (by simpa using g)
    subst this
    exact hk ⟨none, 0, 0⟩ w rfl (h.nil 2)
  · refine h.cloneR (s2 := s) (by omega) fun t w ht h => hk t w ht h

def we (x : Ep) : Int := x.1
theorem ssortE (M : List Ep) : pks (ssort wt (M.map pkE)) = (ssort we M).flatMap eC := by
  rw [← pks_eC, ssort_map (k := we) (k' := wt) (f := pkE) (fun _ => rfl)]

theorem symsN_get {l : List Nat} {k : Nat} (h : k < l.length) : (l.map fun n : Nat => (n : Int)).getD k 0 = l[k] := by
  simp [List.getD, h]

/-- the symbols of the front are counted -/
theorem limit_Lengths.count {t6 t7 t85 : Sl} {R : List Ep} {T : List (Sl × List Nat)} {N : Nat} {K : Ending → World → Prop} (h : St F0 w0 w (ownA 1 t7 (ivs .i64 (List.replicate N 0)) :: tabA T :: ps)) [Rdb F0 w0 t85 ps 2 (R.flatMap eC)]
    (hT : ∀ x ∈ R, (x.2.1, x.2.2) ∈ T) (hN : ∀ x ∈ R, ∀ s ∈ x.2.2, s < N) (hNl : N ≤ 1000) (hn : ∀ x ∈ R, x.2.2.length ≤ 100000) (hR : R.length ≤ 1000)
    (hk : ∀ w', St F0 w0 w' (ownA 1 t7 (ivs .i64 (mapR N fun i => ((flat (R.map erE)).count i : Int))) :: ps) → K (.returned (.tuple ⟨[.slice t7.a t7.len t7.cap, .int .i64 0]⟩)) w') :
    limit_Lengths.j7 t7 t85 ((R.length : Nat) : Int) 0 (fun v w' => K (.returned v) w') w := by
  have hcnt : ∀ (l : List Ep), (∀ x ∈ l, x.2.2.length ≤ 100000) → ∀ i, (flat (l.map erE)).count i ≤ l.length * 100000 := by
    intro l
    induction l with
    | nil => intro _ i; simp [flat]
    | cons a l ih =>
      intro h i
      have := ih (fun x hx => h x (by simp [hx])) i
      have h1 := h a (by simp)
      have h2 := List.count_le_length (a := i) (l := a.2.2)
      rw [List.map_cons, flat_cons, List.count_append, List.length_cons]
      show (a.2.2).count i + _ ≤ _
      omega
  unfold limit_Lengths.j7
  refine loop1 (fun (j : Nat) (j' : Int) w' => j' = j ∧ j ≤ R.length ∧ St F0 w0 w' (ownA 1 t7 (ivs .i64 (mapR N fun i => ((flat ((R.take j).map erE)).count i : Int))) :: tabA T :: ps)) (fun j => R.length - j) 0 ⟨rfl, by omega, by
    rw [rep_mapR] at h
    simpa [flat] using h⟩ ?_
  clear h
  rintro j j' wL I μ ⟨rfl, hj, h⟩ hin
  unfold limit_Lengths.b1
  refine br_d (fun g => ?_) (fun g => ?_)
  · have hjR : j < R.length := by omega
    have hmem := List.getElem_mem hjR
    have hsl := hn _ hmem
    have hcj : ∀ i, (flat ((R.take j).map erE)).count i ≤ 100000000 := fun i => by
      have h1 := hcnt (R.take j) (fun x hx => hn x (List.mem_of_mem_take hx)) i
      have h2 : (R.take j).length ≤ 1000 := by rw [List.length_take]; omega
      have h3 := Nat.mul_le_mul_right 100000 h2
      omega
    unfold limit_Lengths.j8
    refine h.lr (s := t85) j rfl hjR ?_
    refine h.new fun nb w h => ?_
    refine ⟨rfl, ?_⟩
    refine h.setR (x := R[j]) (by rw [elt_pack.zc]; rfl) fun w h => ?_
    have h : St F0 w0 w (blkA nb [.int .i64 (R[j]).1, .slice (R[j]).2.1.a (R[j]).2.1.len (R[j]).2.1.cap] :: ownA 1 t7 (ivs .i64 (mapR N fun i => ((flat ((R.take j).map erE)).count i : Int))) :: tabA T :: ps) := h
    rw [add_mk]
    refine h.fL (b := nb) (o := 0 + 1) ?_
    dsimp only
    have h : St F0 w0 w (ownA 1 t7 (ivs .i64 (mapR N fun i => ((flat ((R.take j).map erE)).count i : Int))) :: tabA T :: ps) := h.drop
    haveI : Rdb F0 w0 (R[j]).2.1 (tabA T :: ps) 1 (nvs (R[j]).2.2) := tab_rdb (hT _ hmem)
    have hl5 := (h.rdb (R[j]).2.1).1
    rw [ivs_length, List.length_map] at hl5
    unfold limit_Lengths.j10
    refine loop1 (fun (k : Nat) (k' : Int) w' => k' = k ∧ k ≤ (R[j]).2.2.length ∧ St F0 w0 w' (ownA 1 t7 (ivs .i64 (mapR N fun i => ((flat ((R.take j).map erE) ++ (R[j]).2.2.take k).count i : Int))) :: tabA T :: ps)) (fun k => (R[j]).2.2.length - k) 0 ⟨rfl, by omega, by simpa using h⟩ ?_
    clear h
    rintro k k' wL2 I2 μ2 ⟨rfl, hk2, h⟩ hin2
    unfold limit_Lengths.b2
    refine br_d (fun g2 => ?_) (fun g2 => ?_)
    · have hks : k < (R[j]).2.2.length := by
        omega
      have hsN := hN _ hmem _ (List.getElem_mem hks)
      have hck : (flat ((R.take j).map erE) ++ (R[j]).2.2.take k).count ((R[j]).2.2[k]) ≤ 200000000 := by
        have h1 := hcj ((R[j]).2.2[k])
        have h2 := List.count_le_length (a := (R[j]).2.2[k]) (l := (R[j]).2.2.take k)
        rw [List.count_append]
        rw [List.length_take] at h2
        omega
      refine h.lx (s := (R[j]).2.1) k rfl (by rw [List.length_map]; exact hks) ?_
      rw [symsN_get hks]
      refine h.lx (s := t7) ((R[j]).2.2[k]) rfl (by rw [mapR_length]; exact hsN) ?_
      rw [getD_mapR hsN]
      refine lt_as (wrap_i64 (by omega) (by omega)) ?_
      refine h.sx (s := t7) ((R[j]).2.2[k]) rfl (by rw [mapR_length]; exact hsN) fun w h => ?_
      refine lt_as (wrap_i64 (by omega) (by omega)) ?_
      refine ⟨⟨rfl, rfl, rfl, rfl, rfl, rfl⟩, hin2 (k + 1) _ _ ⟨by omega, by omega, ?_⟩ (by omega)⟩
      rw [set_mapR] at h
      have e : (mapR N fun m => if m = (R[j]).2.2[k] then ((flat ((R.take j).map erE) ++ (R[j]).2.2.take k).count ((R[j]).2.2[k]) : Int) + 1 else ((flat ((R.take j).map erE) ++ (R[j]).2.2.take k).count m : Int)) = mapR N fun i => ((flat ((R.take j).map erE) ++ (R[j]).2.2.take (k + 1)).count i : Int) := by
        refine mapR_congr fun i _ => ?_
        rw [List.take_succ_eq_append_getElem hks, ← List.append_assoc, List.count_append (l₁ := flat ((R.take j).map erE) ++ (R[j]).2.2.take k), List.count_singleton]
        by_cases e : i = (R[j]).2.2[k]
        · rw [if_pos e, e]; simp
        · rw [if_neg e]
          have : ((R[j]).2.2[k] == i) = false := by simpa using fun h => e h.symm
          rw [this]; simp
      rw [e] at h
      exact h
    · have : k = (R[j]).2.2.length := by
        omega
      subst this
      unfold limit_Lengths.j9
      refine lt_as (wrap_i64 (by omega) (by omega)) ?_
      refine ⟨⟨rfl, rfl, rfl⟩, hin (j + 1) _ _ ⟨by omega, by omega, ?_⟩ (by omega)⟩
      rw [List.take_length] at h
      have e : flat ((R.take (j + 1)).map erE) = flat ((R.take j).map erE) ++ (R[j]).2.2 := by
        rw [List.take_succ_eq_append_getElem hjR, List.map_append, flat_append]
        congr 1
        simp [flat, erE]
      rw [e]
      exact h
  · have : j = R.length := by omega
    subst this
    rw [List.take_length] at h
    unfold limit_Lengths.j6
    exact hk wL (h.tail fun _ _ _ h => h.drop)

theorem okE_sort {T : List (Sl × List Nat)} {M : Int} {n : Nat} {L : List Ep} (h : okE T M n L) : okE T M n (ssort we L) := fun x hx => h x ((ssort_perm _).mem_iff.1 hx)

/-- the rows -/
theorem limit_Lengths.rows {t6 t7 t8 : Sl} {C : List Ep} {T0 : List (Sl × List Nat)} {cs : List Pg} {m : Nat} {K : Ending → World → Prop}
    (h : St F0 w0 w (ownA 2 t8 (C.flatMap eC) :: tabA T0 :: ps)) (hC : C.map erE = cs) (hok0 : okE T0 16777216 1 C) (hm : m ≤ 15) (hc1 : 1 ≤ cs.length) (hc : cs.length ≤ 300)
    (hk : ∀ (t9 : Sl) (R : List Ep) (T : List (Sl × List Nat)) (w' : World), R.map erE = rowP cs m → (∀ x ∈ R, (x.2.1, x.2.2) ∈ T ∧ x.2.2.length ≤ 100000) → St F0 w0 w' (ownA 2 t9 (R.flatMap eC) :: tabA T :: ps) → limit_Lengths.j5 t6 t7 t9 (fun v w' => K (.returned v) w') w') :
    limit_Lengths.j4 (m : Int) t6 t7 t8 ⟨none, 0, 0⟩ (fun v w' => K (.returned v) w') w := by
  have hCl : C.length = cs.length := by rw [← hC, List.length_map]
  unfold limit_Lengths.j4 limit_Lengths.j11
  refine loop2 (fun (a : Nat × List Ep × List (Sl × List Nat)) (o : Sl) (i' : Int) w' => i' = a.1 ∧ a.1 ≤ m ∧ a.2.1.map erE = rowP cs a.1 ∧ okE a.2.2 (16777216 * 2 ^ a.1) (2 ^ a.1) a.2.1 ∧ okE a.2.2 16777216 1 C ∧ St F0 w0 w' (ownA 2 o (a.2.1.flatMap eC) :: tabA a.2.2 :: ownA 2 t8 (C.flatMap eC) :: ps)) (fun a => m - a.1) (0, [], T0)
    ⟨rfl, by omega, rfl, fun x hx => (by cases hx), hok0, (h.at1).nil 2⟩ ?_
  clear h
  rintro ⟨r, R, T⟩ o i' wL I μ ⟨rfl, hr, hR, hok, hokC, h⟩ hin
  simp only at hr hR hok hokC h hin ⊢
  have hRl : R.length < 2 * cs.length := by
    have := congrArg List.length hR
    rw [List.length_map] at this
    rw [this]
    exact rowP_lt hc1 r
  have h15 : 2 ^ r ≤ 2 ^ 15 := Nat.pow_le_pow_right (by decide) (by omega)
  rw [show (2 : Nat) ^ 15 = 32768 from rfl] at h15
  unfold limit_Lengths.b3
  refine br_d (fun g => ?_) (fun g => ?_)
  · refine slices_Clone_pack.c (s := t8) h (by omega) fun t w ht h => ⟨t, rfl, ?_⟩
    have h : St F0 w0 w (tabA T :: ownA 2 t (C.flatMap eC) :: ownA 2 o (R.flatMap eC) :: ownA 2 t8 (C.flatMap eC) :: ps) := h.sub
    have e2 : ((2 : Int) ^ r) = ((2 ^ r : Nat) : Int) := by simp
    rw [e2] at hok
    have h1p : 1 ≤ 2 ^ r := Nat.one_le_two_pow
    have ep : 2 ^ (r + 1) = 2 * 2 ^ r := by rw [Nat.pow_succ, Nat.mul_comm]
    have e3 : ((2 : Int) ^ (r + 1)) = ((2 ^ (r + 1) : Nat) : Int) := by simp
    refine limit_pairs.c (s := o) (L := R) h hok (by omega) (by omega) (by omega) fun t2 w L2 T2 hL2 hT2 hok2 h => ⟨t2, rfl, ?_⟩
    have hL2l : L2.length ≤ 600 := by
      have := congrArg List.length hL2
      rw [List.length_map, prsP_length, List.length_map] at this
      omega
    refine h.appR (s := t) (s2 := t2) (by omega) fun t3 w ht3 h => ?_
    rw [← pks_eC] at h
    refine SortStable.c (s := t3) h (by rw [List.length_map, List.length_append]; omega) fun w h => ⟨rfl, ?_⟩
    rw [ssortE] at h
    refine lt_as (wrap_i64 (by omega) (by omega)) ?_
    refine ⟨⟨rfl, rfl, rfl, rfl⟩, hin (r + 1, ssort we (C ++ L2), T2) _ _ _ ⟨by simp only; omega, by simp only; omega, ?_, ?_, ?_, ?_⟩ (by simp only; omega)⟩
    · simp only
      rw [ssort_map (k := we) (k' := gw) (f := erE) (fun _ => rfl), List.map_append, hC, hL2, hR, rowP]
    · simp only
      rw [e3]
      refine okE_sort fun x hx => ?_
      rcases List.mem_append.1 hx with hx | hx
      · exact hokC.mono hT2 (by omega) (by omega) x hx
      · exact hok2.mono (fun _ h => h) (by omega) (by omega) x hx
    · exact hokC.mono hT2 (Int.le_refl _) (Nat.le_refl _)
    · exact h.sub
  · have : r = m := by omega
    subst this
    have h : St F0 w0 wL (ownA 2 o (R.flatMap eC) :: tabA T :: ps) := h.sub
    exact hk o R T wL hR (fun x hx => ⟨(hok x hx).1, by have := (hok x hx).2.2.2; omega⟩) h

/-- the coins -/
theorem limit_Lengths.coins {t6 t7 : Sl} {m : Int} {K : Ending → World → Prop} (h : St F0 w0 w ps) [Rdb F0 w0 s ps 1 (ivs .i64 xs)] [Rdb F0 w0 t6 ps 1 (nvs (comeL xs))] (hg : goodX xs)
    (hk : ∀ (t8 : Sl) (C : List Ep) (T : List (Sl × List Nat)) (w' : World), C.map erE = coinsP xs → okE T 16777216 1 C → St F0 w0 w' (ownA 2 t8 (C.flatMap eC) :: tabA T :: ps) → limit_Lengths.j4 m t6 t7 t8 ⟨none, 0, 0⟩ (fun v w' => K (.returned v) w') w') :
    limit_Lengths.j3 s m t6 t7 ⟨none, 0, 0⟩ ⟨none, 0, 0⟩ (fun v w' => K (.returned v) w') w := by
  have hl6 := (h.rdb t6).1
  rw [ivs_length, List.length_map] at hl6
  have hcl := come_le xs
  have hlg := hg.1
  unfold limit_Lengths.j3 limit_Lengths.j12
  have h : St F0 w0 w (tabA [] :: ps) := h.add (f' := []) (p' := noA) (Mod.refl _ _) rfl (Gr.refl _ _)
  refine loop2 (fun (a : Nat × List Ep × List (Sl × List Nat)) (o : Sl) (i' : Int) w' => i' = a.1 ∧ a.1 ≤ (comeL xs).length ∧ a.2.1.map erE = (coinsP xs).take a.1 ∧ okE a.2.2 16777216 1 a.2.1 ∧ St F0 w0 w' (ownA 2 o (a.2.1.flatMap eC) :: tabA a.2.2 :: ps)) (fun a => (comeL xs).length - a.1) (0, [], [])
    ⟨rfl, by omega, rfl, fun x hx => (by cases hx), h.nil 2⟩ ?_
  clear h
  rintro ⟨i, L, T⟩ o i' wL I μ ⟨rfl, hi, hL, hok, h⟩ hin
  simp only at hi hL hok h hin ⊢
  have hLl : L.length = i := by
    have := congrArg List.length hL
    rw [List.length_map, List.length_take, coins_length] at this
    omega
  unfold limit_Lengths.b4
  refine br_d (fun g => ?_) (fun g => ?_)
  · have hic : i < (comeL xs).length := by omega
    have hcm := mem_come.1 (List.getElem_mem hic)
    have hv := hg.2 _ (mem_getD hcm.1)
    unfold badN at hv
    refine h.lx (s := t6) i rfl (by rw [List.length_map]; exact hic) ?_
    rw [symsN_get hic]
    refine h.lx (s := s) ((comeL xs)[i]) rfl hcm.1 ?_
    refine h.new fun nb w h => ⟨rfl, ?_⟩
    have h : St F0 w0 w (blkA nb (nvs [(comeL xs)[i]]) :: ownA 2 o (L.flatMap eC) :: tabA T :: ps) := h
    refine h.pushR (s := o) (x := ((xs.getD ((comeL xs)[i]) 0, ⟨some ⟨nb, 0, none⟩, 1, 1⟩, [(comeL xs)[i]]) : Ep)) (by omega) rfl fun o2 w _ h => ?_
    refine lt_as (wrap_i64 (by omega) (by omega)) ?_
    refine ⟨⟨rfl, rfl, rfl, rfl, rfl, rfl, rfl⟩, hin (i + 1, L ++ [(xs.getD ((comeL xs)[i]) 0, ⟨some ⟨nb, 0, none⟩, 1, 1⟩, [(comeL xs)[i]])], (⟨some ⟨nb, 0, none⟩, 1, 1⟩, [(comeL xs)[i]]) :: T) _ _ _ ⟨by simp only; omega, by simp only; omega, ?_, ?_, ?_⟩ (by simp only; omega)⟩
    · simp only
      rw [List.map_append, hL, List.take_succ_eq_append_getElem (by rw [coins_length]; exact hic)]
      congr 1
      simp [coinsP, erE]
    · intro x hx
      rcases List.mem_append.1 hx with hx | hx
      · exact hok.mono (fun x hx => List.mem_cons_of_mem _ hx) (Int.le_refl _) (Nat.le_refl _) x hx
      · rw [List.mem_singleton] at hx
        subst hx
        refine ⟨by simp, ?_, ?_, ?_⟩
        · show 0 ≤ xs.getD _ 0; omega
        · show xs.getD _ 0 ≤ _; omega
        · show 1 ≤ 1; omega
    · exact h.tail fun _ _ _ h => (h.ownB (n := 1) rfl).ro.tabI
  · have : i = (comeL xs).length := by omega
    subst this
    rw [List.take_of_length_le (by rw [coins_length]; omega)] at hL
    exact hk o L T wL hL hok h

theorem limit_Lengths.c {m : Int} {K : Ending → World → Prop} (h : St F0 w0 w ps) [Rdb F0 w0 s ps 1 (ivs .i64 xs)]
    (hk0 : ∀ t w', leastE xs m = 0 → t.len = xs.length → St F0 w0 w' (ownA 1 t (ivs .i64 (lenP xs m.toNat)) :: ps) → K (.returned (.tuple ⟨[.slice t.a t.len t.cap, .int .i64 0]⟩)) w')
    (hk1 : ∀ w', leastE xs m ≠ 0 → St F0 w0 w' ps → K (.returned (.tuple ⟨[.slice none 0 0, .int .i64 (leastE xs m)]⟩)) w') : Calls Try.prog 11 ⟨[.slice s.a s.len s.cap, .int .i64 m]⟩ w K := by
  have hl := (h.rdb s).1
  rw [ivs_length] at hl
  refine ret_k (limit_Lengths.ok _ _ _ _ ?_)
  unfold limit_Lengths
  have no1 : ∀ w, (¬ goodX xs ∨ m < 1 ∨ 15 < m) → St F0 w0 w ps → K (.returned (.tuple ⟨[.slice none 0 0, .int .i64 1]⟩)) w := by
    intro w e h
    have e1 : leastE xs m = 1 := by unfold leastE; rw [if_pos e]
    have := hk1 w (by omega) h
    rw [e1] at this
    exact this
  refine limit_bad.c (s := s) h fun b w hg hb h => ⟨b, rfl, ?_⟩
  refine br_b (fun g => ?_) (fun g => ?_)
  · refine no1 w (Or.inl fun hgd => ?_) h
    rcases hb g with e | ⟨x, hx, e⟩
    · have := hgd.1; omega
    · exact hgd.2 x hx e
  have hgood : goodX xs := hg g
  have hlg := hgood.1
  have hcl := come_le xs
  refine br_d (fun g1 => no1 w (by omega) h) (fun g1 => ?_)
  refine br_d (fun g2 => no1 w (by omega) h) (fun g2 => ?_)
  obtain ⟨M, rfl⟩ : ∃ M : Nat, m = M := ⟨m.toNat, by omega⟩
  have eL : leastE xs M = if 2 ^ M < (comeL xs).length then 7 else 0 := by
    unfold leastE
    rw [if_neg (fun e => by
      rcases e with e | e | e
      · exact e hgood
      · omega
      · omega), Int.toNat_natCast]
  unfold limit_Lengths.j1
  refine limit_come.c (s := s) h (by omega) fun t6 w ht6 h => ⟨t6, rfl, ?_⟩
  refine h.makeI (n := xs.length) (by omega) (by omega) (by omega) fun t7 w ht7 hc7 h => ?_
  unfold limit_Lengths.j2
  have h15 : 2 ^ M ≤ 2 ^ 15 := Nat.pow_le_pow_right (by decide) (by omega)
  have hM : shlV .i64 1 (M : Int) = ((2 ^ M : Nat) : Int) := by
    rw [shlV_lit .i64 (t := M) rfl (by show M ≤ 64; omega) (by decide) (by
      have e : ((1 : Int) * 2 ^ M) = ((2 ^ M : Nat) : Int) := by simp
      rw [e]
      show ((2 ^ M : Nat) : Int) < 9223372036854775808
      have : (2 : Nat) ^ 15 = 32768 := rfl
      omega)]
    simp
  refine ⟨by omega, lt_as hM ?_⟩
  refine br_d (fun g3 => ?_) (fun g3 => ?_)
  · have e7 : leastE xs M = 7 := by rw [eL, if_pos (by omega)]
    have := hk1 w (by omega) h.drop.drop
    rw [e7] at this
    exact this
  have e0 : leastE xs M = 0 := by rw [eL, if_neg (by omega)]
  have hk0 := fun t w' => hk0 t w' e0
  simp only [Int.toNat_natCast] at hk0
  have few : (comeL xs).length < 2 → lenP xs M = mapR xs.length fun i => if 0 < xs.getD i 0 then 1 else 0 := by
    intro hf
    refine mapR_congr fun i hi => ?_
    unfold lenF
    rw [if_pos hf]
    split <;> rfl
  refine br_b (fun g4 => ?_) (fun g4 => ?_)
  · have g4 : (t6.len : Int) = 0 := by simpa using g4
    refine hk0 t7 w ht7 ?_
    have e : lenP xs M = List.replicate xs.length 0 := by
      rw [few (by omega), rep_mapR]
      refine mapR_congr fun i hi => ?_
      rw [if_neg (fun h0 => ?_)]
      have := List.length_pos_of_mem (mem_come.2 ⟨hi, h0⟩)
      omega
    rw [e]
    exact h.tail fun _ _ _ h => h.drop
  have g4 : (t6.len : Int) ≠ 0 := by simpa using g4
  refine br_b (fun g5 => ?_) (fun g5 => ?_)
  · have g5 : (t6.len : Int) = 1 := by simpa using g5
    have hc0 : 0 < (comeL xs).length := by omega
    have hcm := mem_come.1 (List.getElem_mem hc0)
    refine h.lx (s := t6) 0 rfl (by rw [List.length_map]; exact hc0) ?_
    rw [symsN_get hc0]
    refine h.sx (s := t7) ((comeL xs)[0]) rfl (by rw [List.length_replicate]; exact hcm.1) fun w h => ?_
    refine hk0 t7 w ht7 ?_
    have e : (List.replicate xs.length (0 : Int)).set ((comeL xs)[0]) 1 = lenP xs M := by
      rw [few (by omega), rep_mapR, set_mapR]
      refine mapR_congr fun i hi => ?_
      by_cases h0 : 0 < xs.getD i 0
      · have hm := mem_come.2 ⟨hi, h0⟩
        obtain ⟨k, hk, rfl⟩ := List.mem_iff_getElem.1 hm
        have : k = 0 := by omega
        subst this
        rw [if_pos rfl, if_pos h0]
      · rw [if_neg h0, if_neg (fun e : i = (comeL xs)[0] => h0 (by rw [e]; exact hcm.2))]
    rw [e] at h
    exact h.tail fun _ _ _ h => h.drop
  have g5 : (t6.len : Int) ≠ 1 := by simpa using g5
  refine limit_Lengths.coins (s := s) (xs := xs) h hgood fun t8 C T w hC hok h => ?_
  refine limit_Lengths.rows (cs := coinsP xs) h hC hok (by omega) (by rw [coins_length]; omega) (by rw [coins_length]; omega) fun t9 R T w hR hRT h => ?_
  have hen := rowP_enough (cs := coinsP xs) (by rw [coins_length]; omega) (L := M) (by rw [coins_length]; omega)
  have hRl : R.length = (rowP (coinsP xs) M).length := by rw [← hR, List.length_map]
  have hRlt := rowP_lt (cs := coinsP xs) (by rw [coins_length]; omega) M
  rw [coins_length] at hen hRlt
  have h9 := h.rlen (s := t9)
  have hcap := h.cap (by decide)
  unfold limit_Lengths.j5
  refine lt_as (wrap_i64 (by omega) (by omega)) ?_
  refine lt_as (wrap_i64 (by omega) (by omega)) ?_
  refine bd_i (n := 2 * (comeL xs).length - 2) (by omega) (by omega) (lt_i ?_)
  have h : St F0 w0 w (ownA 1 t7 (ivs .i64 (List.replicate xs.length 0)) :: tabA T :: ownA 2 t9 (R.flatMap eC) :: ps) := h.sub
  haveI := h.drop.drop.cutRR t9 0 (2 * (comeL xs).length - 2) (t9.cap - 0) (by omega) (by omega) hcap
  rw [List.drop_zero, Nat.sub_zero] at this
  have hRt : (R.take (2 * (comeL xs).length - 2)).map erE = (rowP (coinsP xs) M).take (2 * (comeL xs).length - 2) := by rw [List.map_take, hR]
  have hlen : (R.take (2 * (comeL xs).length - 2)).length = 2 * (comeL xs).length - 2 := by rw [List.length_take]; omega
  have hfin := limit_Lengths.count (t6 := t6) (t7 := t7) (t85 := ⟨cutA t9.a t9.cap 0 2, 2 * (comeL xs).length - 2, t9.cap - 0⟩) (R := R.take (2 * (comeL xs).length - 2)) (T := T) (N := xs.length) (K := K) h (fun x hx => (hRT x (List.mem_of_mem_take hx)).1) (fun x hx s hs => ?_) (by omega) (fun x hx => (hRT x (List.mem_of_mem_take hx)).2) (by omega) fun w h => ?_
  · rw [hlen] at hfin
    exact hfin
  · have hx' : erE x ∈ rowP (coinsP xs) M := by rw [← hR]; exact List.mem_map_of_mem (List.mem_of_mem_take hx)
    refine flat_lt (cs := coinsP xs) (n := xs.length) ?_ M (erE x) hx' s hs
    intro y hy s hs
    obtain ⟨i, hi, rfl⟩ := List.mem_map.1 hy
    have : s = i := by simpa using hs
    subst this
    exact (mem_come.1 hi).1
  · refine hk0 t7 w ht7 ?_
    rw [hRt] at h
    have e : lenP xs M = mapR xs.length fun i => ((flat ((rowP (coinsP xs) M).take (2 * (comeL xs).length - 2))).count i : Int) := by
      refine mapR_congr fun i hi => ?_
      unfold lenF
      rw [if_neg (by omega)]
    rw [e]
    exact h.tail fun _ _ _ h => h.drop

theorem limit_Least.c {m : Int} {K : Ending → World → Prop} (h : St F0 w0 w ps) [Rdb F0 w0 s ps 1 (ivs .i64 xs)]
    (hk : ∀ w', St F0 w0 w' ps → K (.returned (.tuple ⟨[.int .i64 (if leastE xs m = 0 then costD xs m.toNat else 0), .int .i64 (leastE xs m)]⟩)) w') : Calls Try.prog 10 ⟨[.slice s.a s.len s.cap, .int .i64 m]⟩ w K := by
  have hl := (h.rdb s).1
  rw [ivs_length] at hl
  refine ret_k (limit_Least.ok _ _ _ _ ?_)
  unfold limit_Least limit_Least.j1
  refine limit_Lengths.c (s := s) (m := m) h (fun t w e0 ht h => ⟨t, 0, rfl, ?_⟩) (fun w e1 h => ⟨⟨none, 0, 0⟩, _, rfl, ?_⟩)
  · rw [e0] at hk
    simp only [if_pos] at hk
    obtain ⟨hg, hm1, hm15, hc⟩ := leastE_ok e0
    have hlg := hg.1
    rw [← dot_cost] at hk
    have hb : ∀ i, i < xs.length → 0 ≤ (lenP xs m.toNat).getD i 0 ∧ (lenP xs m.toNat).getD i 0 ≤ 15 ∧ 0 ≤ xs.getD i 0 ∧ xs.getD i 0 ≤ 16777216 ∨ xs.getD i 0 < 0 := by
      intro i hi
      rw [lenP_getD hi]
      have h1 := lenF_ok hc (by omega) hi
      have h2 := hg.2 _ (mem_getD hi)
      unfold badN at h2
      omega
    have hprod : ∀ i, i < xs.length → 0 ≤ (lenP xs m.toNat).getD i 0 * xs.getD i 0 ∧ (lenP xs m.toNat).getD i 0 * xs.getD i 0 ≤ 251658240 := by
      intro i hi
      have h2 := hg.2 _ (mem_getD hi)
      unfold badN at h2
      rcases hb i hi with ⟨h3, h4, h5, h6⟩ | h3
      · have h7 := Int.mul_nonneg h3 h5
        have h8 : (lenP xs m.toNat).getD i 0 * xs.getD i 0 ≤ 15 * 16777216 := Int.mul_le_mul h4 h6 h5 (by decide)
        exact ⟨h7, by omega⟩
      · omega
    have hdot : ∀ i, i ≤ xs.length → 0 ≤ dotN (lenP xs m.toNat) xs i ∧ dotN (lenP xs m.toNat) xs i ≤ 251658240 * i := by
      intro i
      induction i with
      | zero => intro _; simp [dotN]
      | succ i ih =>
        intro hi
        have := ih (by omega)
        have := hprod i (by omega)
        rw [dotN_succ]
        omega
    unfold limit_Least.j2 limit_Least.j4
    refine loop2 (fun (i : Nat) (n : Int) (i' : Int) w' => i' = i ∧ i ≤ xs.length ∧ n = dotN (lenP xs m.toNat) xs i ∧ St F0 w0 w' (ownA 1 t (ivs .i64 (lenP xs m.toNat)) :: ps)) (fun i => xs.length - i) 0 ⟨rfl, by omega, rfl, h⟩ ?_
    clear h
    rintro i n i' wL I μ ⟨rfl, hi, rfl, h⟩ hin
    unfold limit_Least.b1
    refine br_d (fun g => ?_) (fun g => ?_)
    · have hix : i < xs.length := by omega
      have h1 := hprod i hix
      have h2 := hdot i hi
      refine h.lx (s := t) i rfl (by rw [lenP_length]; exact hix) ?_
      refine h.lx (s := s) i rfl hix ?_
      refine lt_as (wrap_i64 (by omega) (by omega)) ?_
      refine lt_as (wrap_i64 (by omega) (by omega)) ?_
      refine lt_as (wrap_i64 (by omega) (by omega)) ?_
      exact ⟨⟨rfl, rfl, rfl, rfl⟩, hin (i + 1) _ _ _ ⟨by omega, by omega, (dotN_succ _ _ _).symm, h⟩ (by omega)⟩
    · have : i = xs.length := by omega
      subst this
      unfold limit_Least.j3
      exact hk wL h.drop
  · rw [if_neg e1] at hk
    unfold limit_Least.j2 limit_Least.j4
    refine loop2 (fun (i : Nat) (n : Int) (i' : Int) w' => i' = 0 ∧ n = 0 ∧ St F0 w0 w' ps) (fun i => i) 0 ⟨rfl, rfl, h⟩ ?_
    clear h
    rintro i n i' wL I μ ⟨rfl, rfl, h⟩ hin
    unfold limit_Least.b1
    refine br_d (fun g => by simp at g) (fun g => ?_)
    unfold limit_Least.j3
    exact hk wL h
end
end Go.Proofs.Ythdmmmfgjmmelaa

/- The heap of trees, the best code without a bound. Own work. -/
namespace Go.Proofs.Ythdmmmfgjmmelaa
open Go Go.Proofs
set_option linter.unusedVariables false
set_option linter.unusedSimpArgs false
attribute [local irreducible] apK cpK mkK br

/-! ### heaps, as a law on lists -/
section
variable {α β : Type} {k : α → Int}
def hless (k : α → Int) (H : List α) (i j : Nat) : Bool := match H[i]?, H[j]? with
  | some x, some y => decide (k x < k y)
  | _, _ => false
def hswap (H : List α) (i j : Nat) : List α := match H[i]?, H[j]? with
  | some x, some y => (H.set i y).set j x
  | _, _ => H
def hup (k : α → Int) : Nat → List α → Nat → List α
  | 0, H, _ => H
  | f + 1, H, j => if (j - 1) / 2 = j then H else if hless k H j ((j - 1) / 2) then hup k f (hswap H ((j - 1) / 2) j) ((j - 1) / 2) else H
def hkid (k : α → Int) (H : List α) (i n : Nat) : Nat := if 2 * i + 2 < n ∧ hless k H (2 * i + 2) (2 * i + 1) = true then 2 * i + 2 else 2 * i + 1
def hdown (k : α → Int) : Nat → List α → Nat → Nat → List α
  | 0, H, _, _ => H
  | f + 1, H, i, n => if n ≤ 2 * i + 1 then H else if hless k H (hkid k H i n) i then hdown k f (hswap H i (hkid k H i n)) (hkid k H i n) n else H
def hpush (k : α → Int) (H : List α) (x : α) : List α := hup k (H.length + 1) (H ++ [x]) H.length
def hmid (k : α → Int) (H : List α) : List α := hdown k (H.length - 1) (hswap H 0 (H.length - 1)) 0 (H.length - 1)
def hrest (k : α → Int) (H : List α) : List α := (hmid k H).take (H.length - 1)

theorem hswap_length (H : List α) (i j : Nat) : (hswap H i j).length = H.length := by
  unfold hswap; split <;> simp
theorem hswap_mem {H : List α} {i j : Nat} : ∀ x ∈ hswap H i j, x ∈ H := by
  intro x hx
  unfold hswap at hx
  split at hx
  · rename_i y z hy hz
    rcases List.mem_or_eq_of_mem_set hx with hx | rfl
    · rcases List.mem_or_eq_of_mem_set hx with hx | rfl
      · exact hx
      · exact List.mem_of_getElem? hz
    · exact List.mem_of_getElem? hy
  · exact hx
theorem hup_length : ∀ f (H : List α) j, (hup k f H j).length = H.length := by
  intro f
  induction f with
  | zero => intro H j; rfl
  | succ f ih =>
    intro H j
    rw [hup]
    split
    · rfl
    · split
      · rw [ih, hswap_length]
      · rfl
theorem hup_mem : ∀ f (H : List α) j, ∀ x ∈ hup k f H j, x ∈ H := by
  intro f
  induction f with
  | zero => intro H j x hx; exact hx
  | succ f ih =>
    intro H j x hx
    rw [hup] at hx
    split at hx
    · exact hx
    · split at hx
      · exact hswap_mem x (ih _ _ x hx)
      · exact hx
theorem hdown_length : ∀ f (H : List α) i n, (hdown k f H i n).length = H.length := by
  intro f
  induction f with
  | zero => intro H i n; rfl
  | succ f ih =>
    intro H i n
    rw [hdown]
    split
    · rfl
    · split
      · rw [ih, hswap_length]
      · rfl
theorem hdown_mem : ∀ f (H : List α) i n, ∀ x ∈ hdown k f H i n, x ∈ H := by
  intro f
  induction f with
  | zero => intro H i n x hx; exact hx
  | succ f ih =>
    intro H i n x hx
    rw [hdown] at hx
    split at hx
    · exact hx
    · split at hx
      · exact hswap_mem x (ih _ _ _ x hx)
      · exact hx
theorem hmid_length (H : List α) : (hmid k H).length = H.length := by unfold hmid; rw [hdown_length, hswap_length]
theorem hmid_mem {H : List α} : ∀ x ∈ hmid k H, x ∈ H := fun x hx => hswap_mem x (hdown_mem _ _ _ _ x hx)
theorem hpush_mem {H : List α} {y : α} : ∀ x ∈ hpush k H y, x ∈ H ∨ x = y := fun x hx => by
  have := hup_mem _ _ _ x hx
  simpa using this
theorem hpush_length {H : List α} {y : α} : (hpush k H y).length = H.length + 1 := by unfold hpush; rw [hup_length]; simp

variable {k' : β → Int} {g : α → β}
theorem hless_map (hg : ∀ a, k' (g a) = k a) (H : List α) (i j : Nat) : hless k' (H.map g) i j = hless k H i j := by
  unfold hless
  rw [List.getElem?_map, List.getElem?_map]
  cases H[i]? <;> cases H[j]? <;> simp [hg]
theorem hswap_map (H : List α) (i j : Nat) : hswap (H.map g) i j = (hswap H i j).map g := by
  unfold hswap
  rw [List.getElem?_map, List.getElem?_map]
  cases H[i]? <;> cases H[j]? <;> simp [List.map_set]
theorem hup_map (hg : ∀ a, k' (g a) = k a) : ∀ f (H : List α) j, hup k' f (H.map g) j = (hup k f H j).map g := by
  intro f
  induction f with
  | zero => intro H j; rfl
  | succ f ih =>
    intro H j
    rw [hup, hup, hless_map hg, hswap_map, ih]
    split
    · rfl
    · split <;> rfl
theorem hdown_map (hg : ∀ a, k' (g a) = k a) : ∀ f (H : List α) i n, hdown k' f (H.map g) i n = (hdown k f H i n).map g := by
  intro f
  induction f with
  | zero => intro H i n; rfl
  | succ f ih =>
    intro H i n
    have e : hkid k' (H.map g) i n = hkid k H i n := by unfold hkid; rw [hless_map hg]
    rw [hdown, hdown, e, hless_map hg, hswap_map, ih]
    split
    · rfl
    · split <;> rfl
theorem hpush_map (hg : ∀ a, k' (g a) = k a) (H : List α) (x : α) : hpush k' (H.map g) (g x) = (hpush k H x).map g := by
  unfold hpush
  rw [List.length_map, ← hup_map hg, List.map_append]
  rfl
theorem hmid_map (hg : ∀ a, k' (g a) = k a) (H : List α) : hmid k' (H.map g) = (hmid k H).map g := by
  unfold hmid
  rw [List.length_map, hswap_map, hdown_map hg]
theorem hrest_map (hg : ∀ a, k' (g a) = k a) (H : List α) : hrest k' (H.map g) = (hrest k H).map g := by
  unfold hrest
  rw [List.length_map, hmid_map hg, List.map_take]
end

/-- trees of symbols -/
inductive Tr where
  | leaf (s : Nat)
  | nd (a b : Tr)
def Tr.size : Tr → Nat
  | leaf _ => 1
  | nd a b => a.size + b.size + 1
/-- a tree in a heap: its block, its weight -/
abbrev HE := Nat × Int × Tr
/-- a node: its block, weight, symbol, trees -/
abbrev Nd := Nat × Int × Int × Option Nat × Option Nat
def kE (x : HE) : Int := x.2.1
abbrev WT := Int × Tr
def kW (x : WT) : Int := x.1
def bp (b : Option Nat) : Value := .pointer (b.map fun b => ⟨b, 0, none⟩)
def ndC (x : Nd) : List Value := [.int .i64 x.2.1, .int .i64 x.2.2.1, bp x.2.2.2.1, bp x.2.2.2.2]
def ndsA (N : List Nd) : As := allA (N.map fun x => blkA x.1 (ndC x))
def ptrs (H : List HE) : List Value := H.map fun x => bp (some x.1)
def reps (N : List Nd) : Nat → Tr → Prop
  | b, .leaf s => ∃ w, (b, w, (s : Int), none, none) ∈ N
  | b, .nd l r => ∃ w x y sy, (b, w, sy, some x, some y) ∈ N ∧ reps N x l ∧ reps N y r
theorem reps_mono {N N' : List Nd} (h : ∀ x ∈ N, x ∈ N') : ∀ (t : Tr) (b : Nat), reps N b t → reps N' b t := by
  intro t
  induction t with
  | leaf s => rintro b ⟨w, hm⟩; exact ⟨w, h _ hm⟩
  | nd l r ihl ihr => rintro b ⟨w, x, y, sy, hm, hl, hr⟩; exact ⟨w, x, y, sy, h _ hm, ihl _ hl, ihr _ hr⟩
/-- all trees of a heap stand in the table -/
def okH (N : List Nd) (M : Int) (H : List HE) : Prop := ∀ x ∈ H, (∃ s a c, (x.1, x.2.1, s, a, c) ∈ N) ∧ reps N x.1 x.2.2 ∧ 0 ≤ x.2.1 ∧ x.2.1 ≤ M
theorem okH.mono {N N' : List Nd} {M M' : Int} {H : List HE} (h : okH N M H) (hN : ∀ x ∈ N, x ∈ N') (hM : M ≤ M') : okH N' M' H := fun x hx => by
  obtain ⟨⟨s, a, c, hm⟩, hr, h0, h1⟩ := h x hx
  exact ⟨⟨s, a, c, hN _ hm⟩, reps_mono hN _ _ hr, h0, by omega⟩
theorem okH.sub {N : List Nd} {M : Int} {H H' : List HE} (h : okH N M H) (hs : ∀ x ∈ H', x ∈ H) : okH N M H' := fun x hx => h x (hs x hx)

theorem St.node : ∀ {N : List Nd} {x : Nd} {F0 : List Nat} {w0 w : World} {ps : List As}, St F0 w0 w (ndsA N :: ps) → x ∈ N → Blk w x.1 (ndC x) := by
  intro N
  induction N with
  | nil => intro x F0 w0 w ps h hm; cases hm
  | cons y N ih =>
    intro x F0 w0 w ps h hm
    have h : St F0 w0 w (andA (blkA y.1 (ndC y)) (ndsA N) :: ps) := h
    have h := h.split
    rcases List.mem_cons.1 hm with rfl | hm
    · exact h.blk
    · exact ih h.drop hm
theorem St.nodeI {F0 : List Nat} {w0 w : World} {ps : List As} {N : List Nd} {b : Nat} {x : Nd} (hb : x.1 = b) (h : St F0 w0 w (blkA b (ndC x) :: ndsA N :: ps)) : St F0 w0 w (ndsA (x :: N) :: ps) := by
  subst hb
  exact h.join

section
variable {F0 : List Nat} {w0 w : World} {ps rest : List As} {s : Sl} {hb : Nat} {H : List HE} {N : List Nd} {M : Int}

theorem ptrs_len : (ptrs H).length = H.length := by simp [ptrs]
theorem ptrs_get {i : Nat} (h : i < H.length) : (ptrs H)[i]? = some (bp (some H[i].1)) := by simp [ptrs, h]
/-- a cell of a row -/
theorem St.lxV {cs : List Value} {i : Int} {v : Value} {K : Addr → Prop} (h : St F0 w0 w ps) [Rdb F0 w0 s ps 1 cs] (j : Nat) (hi : i = j) (hv : cs[j]? = some v) (hk : ∀ a, w.cell? a = some v → K a) : ixS s.a s.len i 1 K := by
  subst hi
  have hr := h.rdb s
  have hl := hr.1
  have hj : j < cs.length := (List.getElem?_eq_some_iff.1 hv).1
  refine hr.ix (by decide) (by omega) (by omega) fun a ha => ?_
  rw [show ((j : Int)).toNat * 1 = j by omega]
  exact hk _ (by rw [hr.cell ha hj]; exact hv)
theorem St.sxV {cs : List Value} {i : Int} {v : Value} {K : World → Prop} (h : St F0 w0 w ps) [PkO s ps 1 cs rest] (j : Nat) (hi : i = j) (hj : j < cs.length) (hs : storable v) (hk : ∀ w', St F0 w0 w' (ownA 1 s (cs.set j v) :: rest) → K w') : ixS s.a s.len i 1 fun a => Go.Proofs.Ythdmmmfgjmmelaa.st w a v K := by
  subst hi
  have h := h.toO s
  have hr := h.ord
  have hl := hr.1
  refine hr.ix (by decide) (by omega) (by omega) fun a ha => ?_
  rw [show ((j : Int)).toNat * 1 = j by omega]
  exact h.setO ha hj hs hk

theorem limit_trees_Len.c {K : Ending → World → Prop} (hk : K (.returned (.int .i64 s.len)) w) : Calls Try.prog 83 ⟨[.slice s.a s.len s.cap]⟩ w K :=
  ret_k (limit_trees_Len.ok _ _ _ (by unfold limit_trees_Len; exact hk))

theorem limit_trees_Less.c {i j : Nat} {K : Ending → World → Prop} (h : St F0 w0 w (ndsA N :: ownA 1 s (ptrs H) :: ps)) (hok : okH N M H) (hi : i < H.length) (hj : j < H.length)
    (hk : ∀ w', St F0 w0 w' (ndsA N :: ownA 1 s (ptrs H) :: ps) → K (.returned (.bool (hless kE H i j))) w') : Calls Try.prog 209 ⟨[.slice s.a s.len s.cap, .int .i64 i, .int .i64 j]⟩ w K := by
  refine ret_k (limit_trees_Less.ok _ _ _ _ _ ?_)
  unfold limit_trees_Less
  refine h.drewK fun w h => ?_
  obtain ⟨⟨s1, a1, c1, m1⟩, _⟩ := hok _ (List.getElem_mem hi)
  obtain ⟨⟨s2, a2, c2, m2⟩, _⟩ := hok _ (List.getElem_mem hj)
  refine h.lxV (s := s) i rfl (ptrs_get hi) fun a ha => ⟨some ⟨H[i].1, 0, none⟩, ha, ?_⟩
  refine nz_i ?_
  rw [add_mk]
  refine (h.node m1).ldI (o := 0 + 0) rfl ?_
  refine h.lxV (s := s) j rfl (ptrs_get hj) fun a ha => ⟨some ⟨H[j].1, 0, none⟩, ha, ?_⟩
  refine nz_i ?_
  rw [add_mk]
  refine (h.node m2).ldI (o := 0 + 0) rfl ?_
  have e : hless kE H i j = decide (H[i].2.1 < H[j].2.1) := by
    unfold hless
    rw [List.getElem?_eq_getElem hi, List.getElem?_eq_getElem hj]
    rfl
  have := hk w h
  rw [e] at this
  exact this

theorem limit_trees_Swap.c {i j : Nat} {K : Ending → World → Prop} (h : St F0 w0 w (ndsA N :: ownA 1 s (ptrs H) :: ps)) (hi : i < H.length) (hj : j < H.length)
    (hk : ∀ w', St F0 w0 w' (ndsA N :: ownA 1 s (ptrs (hswap H i j)) :: ps) → K (.returned (.tuple ⟨[]⟩)) w') : Calls Try.prog 212 ⟨[.slice s.a s.len s.cap, .int .i64 i, .int .i64 j]⟩ w K := by
  refine ret_k (limit_trees_Swap.ok _ _ _ _ _ ?_)
  unfold limit_trees_Swap
  refine h.drewK fun w h => ?_
  refine h.lxV (s := s) j rfl (ptrs_get hj) fun a ha => ⟨some ⟨H[j].1, 0, none⟩, ha, ?_⟩
  refine h.lxV (s := s) i rfl (ptrs_get hi) fun a ha => ⟨some ⟨H[i].1, 0, none⟩, ha, ?_⟩
  refine h.sxV (s := s) i rfl (by rw [ptrs_len]; exact hi) trivial fun w h => ?_
  refine h.sxV (s := s) j rfl (by rw [List.length_set, ptrs_len]; exact hj) trivial fun w h => ?_
  refine hk w ?_
  have e : hswap H i j = (H.set i H[j]).set j H[i] := by
    unfold hswap
    rw [List.getElem?_eq_getElem hi, List.getElem?_eq_getElem hj]
  rw [e]
  have h : St F0 w0 w (ndsA N :: ownA 1 s (((ptrs H).set i (.pointer (some ⟨H[j].1, 0, none⟩))).set j (.pointer (some ⟨H[i].1, 0, none⟩))) :: ps) := h.sub
  unfold ptrs at h ⊢
  rw [List.map_set, List.map_set]
  exact h

abbrev hpL (hb : Nat) (s : Sl) (H : List HE) (N : List Nd) (ps : List As) : List As := ndsA N :: ownA 1 s (ptrs H) :: blkA hb [.slice s.a s.len s.cap] :: ps

theorem heap_up.c {j : Nat} {K : Ending → World → Prop} (h : St F0 w0 w (hpL hb s H N ps)) (hok : okH N M H) (hj : j < H.length) (hl : H.length ≤ 100000)
    (hk : ∀ w', St F0 w0 w' (hpL hb s (hup kE (j + 1) H j) N ps) → K (.returned (.tuple ⟨[]⟩)) w') : Calls Try.prog 131 ⟨[.iface 130 (.pointer (some ⟨hb, 0, none⟩)), .int .i64 j]⟩ w K := by
  refine ret_k (heap_up.ok _ _ _ _ ?_)
  unfold heap_up
  refine loop1 (fun (a : Nat × Nat × List HE) (j' : Int) w' => j' = a.2.1 ∧ a.2.1 < a.1 ∧ a.2.1 < a.2.2.length ∧ a.2.2.length ≤ 100000 ∧ hup kE a.1 a.2.2 a.2.1 = hup kE (j + 1) H j ∧ okH N M a.2.2 ∧ St F0 w0 w' (hpL hb s a.2.2 N ps)) (fun a => a.1) (j + 1, j, H) ⟨rfl, by simp only; omega, hj, hl, rfl, hok, h⟩ ?_
  clear h hok hj hl
  rintro ⟨f, j2, H2⟩ j' wL I μ ⟨rfl, hjf, hj, hl, hR, hok, h⟩ hin
  simp only at hjf hj hl hR hok h hin ⊢
  obtain ⟨f, rfl⟩ : ∃ f', f = f' + 1 := ⟨f - 1, by omega⟩
  unfold heap_up.b1
  refine lt_as (wrap_i64 (by omega) (by omega)) ⟨by decide, ?_⟩
  have ed : Int.tdiv ((j2 : Int) - 1) 2 = (((j2 - 1) / 2 : Nat) : Int) := by
    cases j2 with
    | zero => rfl
    | succ n =>
      rw [show (((n + 1 : Nat) : Int) - 1) = (n : Int) by omega, tdiv_nn (by omega), show n + 1 - 1 = n by omega]
      omega
  rw [ed]
  refine lt_as (wrap_i64 (by omega) (by omega)) ?_
  rw [hup] at hR
  refine br_b (fun g => ?_) (fun g => ?_)
  · have g : (j2 - 1) / 2 = j2 := by
      have : (((j2 - 1) / 2 : Nat) : Int) = (j2 : Int) := by simpa using g
      omega
    rw [if_pos g] at hR
    subst hR
    exact hk wL h
  · have g : ¬ (j2 - 1) / 2 = j2 := by
      intro e
      rw [e] at g
      simp at g
    rw [if_neg g] at hR
    refine h.fL (b := hb) (o := 0) ?_
    refine limit_trees_Less.c (s := s) h hok hj (by omega) fun w h => ⟨_, rfl, ?_⟩
    refine br_b (fun g2 => ?_) (fun g2 => ?_)
    · have g2 : hless kE H2 j2 ((j2 - 1) / 2) = false := by simpa using g2
      rw [if_neg (by rw [g2]; decide)] at hR
      subst hR
      exact hk w h
    · have g2 : hless kE H2 j2 ((j2 - 1) / 2) = true := by simpa using g2
      rw [if_pos g2] at hR
      refine h.fL (b := hb) (o := 0) ?_
      refine limit_trees_Swap.c (s := s) h (by omega) hj fun w h => ⟨rfl, ?_⟩
      exact ⟨rfl, hin (f, (j2 - 1) / 2, hswap H2 ((j2 - 1) / 2) j2) _ _ ⟨rfl, by simp only; omega, by simp only; rw [hswap_length]; omega, by simp only; rw [hswap_length]; omega, hR, hok.sub hswap_mem, h⟩ (by simp only; omega)⟩

theorem heap_down.c {n : Nat} {K : Ending → World → Prop} (h : St F0 w0 w (hpL hb s H N ps)) (hok : okH N M H) (hn : n ≤ H.length) (hl : H.length ≤ 100000)
    (hk : ∀ b w', St F0 w0 w' (hpL hb s (hdown kE n H 0 n) N ps) → K (.returned (.bool b)) w') : Calls Try.prog 164 ⟨[.iface 130 (.pointer (some ⟨hb, 0, none⟩)), .int .i64 0, .int .i64 n]⟩ w K := by
  refine ret_k (heap_down.ok _ _ _ _ _ ?_)
  unfold heap_down heap_down.j1
  refine loop1 (fun (a : Nat × Nat × List HE) (i' : Int) w' => i' = a.2.1 ∧ n ≤ a.2.1 + a.1 ∧ a.2.2.length = H.length ∧ hdown kE a.1 a.2.2 a.2.1 n = hdown kE n H 0 n ∧ okH N M a.2.2 ∧ a.2.1 ≤ 100000 ∧ St F0 w0 w' (hpL hb s a.2.2 N ps)) (fun a => 200000 - a.2.1) (n, 0, H) ⟨rfl, by simp only; omega, rfl, rfl, hok, by simp, h⟩ ?_
  clear h hok
  rintro ⟨f, i, H2⟩ i' wL I μ ⟨rfl, hf, hH, hR, hok, hi, h⟩ hin
  simp only at hf hH hR hok hi h hin ⊢
  unfold heap_down.b1
  refine lt_as (wrap_i64 (by omega) (by omega)) ?_
  refine lt_as (wrap_i64 (by omega) (by omega)) ?_
  have stop : hdown kE f H2 i n = H2 → ∀ w, St F0 w0 w (hpL hb s H2 N ps) → heap_down.j2 0 (i : Int) (fun v w' => K (.returned v) w') w := by
    intro e w h
    rw [e] at hR
    unfold heap_down.j2
    exact hk _ w (by rw [← hR]; exact h)
  refine br_d (fun g => stop ?_ wL h) (fun g => ?_)
  · cases f with
    | zero => rfl
    | succ f => rw [hdown, if_pos (by omega)]
  refine br_d (fun g2 => by omega) (fun _ => ?_)
  obtain ⟨f, rfl⟩ : ∃ f', f = f' + 1 := ⟨f - 1, by omega⟩
  have hR2 := hR
  rw [hdown, if_neg (by omega)] at hR2
  have j4 : ∀ (j : Nat) w, j = hkid kE H2 i n → i < j → j < n → St F0 w0 w (hpL hb s H2 N ps) → heap_down.j4 ⟨hb, 0, none⟩ 0 (n : Int) (i : Int) (j : Int) (fun v w' => K (.returned v) w') (fun h_0' i0_1' n_2' i_7' w' => (h_0' = ⟨hb, 0, none⟩ ∧ i0_1' = 0 ∧ n_2' = (n : Int)) ∧ I i_7' w' ∧ μ i_7' w' < μ (i : Int) wL) w := by
    intro j w e hij hjn h
    unfold heap_down.j4
    rw [← e] at hR2
    refine h.fL (b := hb) (o := 0) ?_
    refine limit_trees_Less.c (s := s) h hok (by omega) (by omega) fun w h => ⟨_, rfl, ?_⟩
    refine br_b (fun g2 => ?_) (fun g2 => ?_)
    · have g2 : hless kE H2 j i = false := by simpa using g2
      refine stop ?_ w h
      rw [hdown, if_neg (by omega), ← e, if_neg (by rw [g2]; decide)]
    · have g2 : hless kE H2 j i = true := by simpa using g2
      rw [if_pos g2] at hR2
      refine h.fL (b := hb) (o := 0) ?_
      refine limit_trees_Swap.c (s := s) h (by omega) (by omega) fun w h => ⟨rfl, ?_⟩
      exact ⟨⟨rfl, rfl, rfl⟩, hin (f, j, hswap H2 i j) _ _ ⟨rfl, by simp only; omega, by simp only; rw [hswap_length]; omega, hR2, hok.sub hswap_mem, by simp only; omega, h⟩ (by simp only; omega)⟩
  unfold heap_down.j3
  refine lt_as (wrap_i64 (by omega) (by omega)) ?_
  refine br_d (fun g3 => ?_) (fun g3 => ?_)
  · refine h.fL (b := hb) (o := 0) ?_
    rw [show (2 * (i : Int) + 1 + 1) = ((2 * i + 2 : Nat) : Int) by omega, show (2 * (i : Int) + 1) = ((2 * i + 1 : Nat) : Int) by omega]
    refine limit_trees_Less.c (s := s) h hok (by omega) (by omega) fun w h => ⟨_, rfl, ?_⟩
    refine br_b (fun g4 => ?_) (fun g4 => ?_)
    · exact j4 (2 * i + 2) w (by unfold hkid; rw [if_pos ⟨by omega, g4⟩]) (by omega) (by omega) h
    · exact j4 (2 * i + 1) w (by unfold hkid; rw [if_neg (fun e => by rw [g4] at e; exact absurd e.2 (by decide))]) (by omega) (by omega) h
  · rw [show (2 * (i : Int) + 1) = ((2 * i + 1 : Nat) : Int) by omega]
    exact j4 (2 * i + 1) wL (by unfold hkid; rw [if_neg (fun e => by omega)]) (by omega) (by omega) h

instance elt_nodep : Elt Try.prog 134 (.pointer none) := ⟨⟨Try.t134, by kernel_rfl, rfl, by decide, by decide⟩, by kernel_rfl⟩

theorem asP_i {p : Option Addr} {F : Option Addr → Prop} (h : F p) : asP (.pointer p) F := h
theorem eqT_s {a : Nat} {K : Prop} (h : K) : eqT a a K := by
  unfold eqT
  rw [show Nat.beq a a = true from by simp]
  exact h

theorem heap_Push.c {x : HE} {K : Ending → World → Prop} (h : St F0 w0 w (hpL hb s H N ps)) (hok : okH N M (H ++ [x])) (hl : H.length ≤ 1000)
    (hk : ∀ s' w', St F0 w0 w' (hpL hb s' (hpush kE H x) N ps) → K (.returned (.tuple ⟨[]⟩)) w') : Calls Try.prog 82 ⟨[.iface 130 (.pointer (some ⟨hb, 0, none⟩)), .iface 134 (.pointer (some ⟨x.1, 0, none⟩))]⟩ w K := by
  refine ret_k (heap_Push.ok ⟨hb, 0, none⟩ (134, .pointer (some ⟨x.1, 0, none⟩)) _ _ ?_)
  unfold heap_Push
  refine ret_k (limit_trees_Push.ok (some ⟨hb, 0, none⟩) (134, .pointer (some ⟨x.1, 0, none⟩)) _ _ ?_)
  unfold limit_trees_Push
  refine eqT_s ?_
  refine asP_i ?_
  refine nz_i ?_
  refine h.fL (b := hb) (o := 0) ?_
  refine h.push (s := s) (z := .pointer none) (by rw [ptrs_len]; omega) trivial fun s' w h => ?_
  refine nz_i ?_
  refine h.fst (b := hb) (o := 0) trivial fun w h => ⟨rfl, ?_⟩
  have h : St F0 w0 w (hpL hb s' (H ++ [x]) N ps) := by
    have e : ptrs (H ++ [x]) = ptrs H ++ [.pointer (some ⟨x.1, 0, none⟩)] := by simp [ptrs, bp]
    unfold hpL
    rw [e]
    exact h.sub
  refine h.fL (b := hb) (o := 0) ?_
  refine limit_trees_Len.c (s := s') ⟨_, rfl, ?_⟩
  have hsl : s'.len = H.length + 1 := by
    have := h.drop.len
    rw [ptrs_len, List.length_append, List.length_singleton] at this
    omega
  refine lt_as (wrap_i64 (by omega) (by omega)) ?_
  rw [show ((s'.len : Nat) : Int) - 1 = (H.length : Int) by omega]
  refine heap_up.c h hok (by simp) (by simp; omega) fun w h => ⟨rfl, ?_⟩
  exact hk s' w h

theorem limit_trees_take.c {K : Ending → World → Prop} (h : St F0 w0 w (hpL hb s H N ps)) (hok : okH N M H) (h1 : 1 ≤ H.length) (hl : H.length ≤ 1000)
    (hk : ∀ s' w' (hx : H.length - 1 < (hmid kE H).length), St F0 w0 w' (hpL hb s' (hrest kE H) N ps) → K (.returned (.pointer (some ⟨((hmid kE H)[H.length - 1]).1, 0, none⟩))) w') : Calls Try.prog 84 ⟨[.pointer (some ⟨hb, 0, none⟩)]⟩ w K := by
  refine ret_k (limit_trees_take.ok _ _ _ ?_)
  unfold limit_trees_take
  refine ret_k (heap_Pop.ok ⟨hb, 0, none⟩ _ _ ?_)
  unfold heap_Pop
  have hsl : s.len = H.length := by
    have := h.drop.len
    rw [ptrs_len] at this
    omega
  refine h.fL (b := hb) (o := 0) ?_
  refine limit_trees_Len.c (s := s) ⟨_, rfl, ?_⟩
  refine lt_as (wrap_i64 (by omega) (by omega)) ?_
  rw [show ((s.len : Nat) : Int) - 1 = ((H.length - 1 : Nat) : Int) by omega]
  refine h.fL (b := hb) (o := 0) ?_
  refine limit_trees_Swap.c (s := s) (i := 0) h (by omega) (by omega) fun w h => ⟨rfl, ?_⟩
  refine heap_down.c h (hok.sub hswap_mem) (by rw [hswap_length]; omega) (by rw [hswap_length]; omega) fun b w h => ⟨b, rfl, ?_⟩
  have h : St F0 w0 w (hpL hb s (hmid kE H) N ps) := h
  refine ret_k (limit_trees_Pop.ok _ _ _ ?_)
  unfold limit_trees_Pop
  have hml := hmid_length (k := kE) H
  have hx : H.length - 1 < (hmid kE H).length := by omega
  refine nz_i ?_
  refine h.fL (b := hb) (o := 0) ?_
  dsimp only
  refine lt_as (wrap_i64 (by omega) (by omega)) ?_
  refine nz_i ?_
  refine h.fL (b := hb) (o := 0) ?_
  refine h.lxV (s := s) (H.length - 1) (by omega) (ptrs_get hx) fun a ha => ⟨some ⟨(hmid kE H)[H.length - 1].1, 0, none⟩, ha, ?_⟩
  refine nz_i ?_
  refine h.fL (b := hb) (o := 0) ?_
  have hcap := h.drop.cap (by decide)
  refine bd_i (n := H.length - 1) (by omega) (by dsimp only; omega) (lt_i ?_)
  refine nz_i ?_
  refine h.fst (b := hb) (o := 0) trivial fun w h => ⟨(_, _), rfl, ⟨(_, _), rfl, ?_⟩⟩
  refine eqT_s ?_
  refine asP_i ?_
  have h : St F0 w0 w (ownA 1 s (ptrs (hmid kE H)) :: ndsA N :: blkA hb [.slice (cutA s.a s.cap 0 1) (H.length - 1 - 0) (s.cap - 0)] :: ps) := h.sub
  have h := h.front (H.length - 1) (by omega)
  refine hk ⟨cutA s.a s.cap 0 1, H.length - 1 - 0, s.cap - 0⟩ w hx ?_
  have e : (ptrs (hmid kE H)).take ((H.length - 1) * 1) = ptrs (hrest kE H) := by
    rw [Nat.mul_one]
    unfold ptrs hrest
    rw [List.map_take]
  rw [e] at h
  exact h.at1
end
end Go.Proofs.Ythdmmmfgjmmelaa

/- The best code without a bound: walked; what is known. Own work. -/
namespace Go.Proofs.Ythdmmmfgjmmelaa
open Go Go.Proofs
set_option linter.unusedVariables false
set_option linter.unusedSimpArgs false
attribute [local irreducible] apK cpK mkK br

def wset : Tr → Nat → List Int → List Int
  | .leaf s, d, o => o.set s ((max 1 d : Nat) : Int)
  | .nd l r, d, o => wset r (d + 1) (wset l (d + 1) o)
def Tr.ok (n : Nat) : Tr → Prop
  | .leaf s => s < n
  | .nd l r => l.ok n ∧ r.ok n
theorem wset_length : ∀ (t : Tr) (d : Nat) (o : List Int), (wset t d o).length = o.length := by
  intro t
  induction t with
  | leaf s => intro d o; simp [wset]
  | nd l r ihl ihr => intro d o; rw [wset, ihr, ihl]

theorem limit_walk.c {N : List Nd} {s : Sl} : ∀ (t : Tr) {b deep : Nat} {o : List Int} {F0 : List Nat} {w0 w : World} {ps : List As} {K : Ending → World → Prop} (h : St F0 w0 w (ndsA N :: ownA 1 s (ivs .i64 o) :: ps)) (hr : reps N b t) (ho : t.ok o.length) (hd : deep + t.size ≤ 1099511627776)
    (hk : ∀ w', St F0 w0 w' (ndsA N :: ownA 1 s (ivs .i64 (wset t deep o)) :: ps) → K (.returned (.tuple ⟨[]⟩)) w'),
    Calls Try.prog 85 ⟨[.pointer (some ⟨b, 0, none⟩), .int .i64 deep, .slice s.a s.len s.cap]⟩ w K := by
  intro t
  induction t with
  | leaf y =>
    intro b deep o F0 w0 w ps K h hr ho hd hk
    obtain ⟨wt, hm⟩ := hr
    refine ret_k (limit_walk.ok _ _ _ _ _ ?_)
    unfold limit_walk
    refine nz_i ?_
    rw [add_mk]
    refine (h.node hm).ldP (o := 0 + 2) rfl ?_
    refine br_is rfl ?_
    refine nz_i ?_
    rw [add_mk]
    refine (h.node hm).ldI (o := 0 + 1) rfl ?_
    refine lt_i ?_
    have e : (if (1 : Int) > (deep : Int) then (1 : Int) else (deep : Int)) = ((max 1 deep : Nat) : Int) := by split <;> omega
    rw [e]
    have ho : y < o.length := ho
    refine h.sx (s := s) y rfl ho fun w h => hk w ?_
    exact h.at1
  | nd l r ihl ihr =>
    intro b deep o F0 w0 w ps K h hr ho hd hk
    obtain ⟨wt, x, y, sy, hm, hl, hr⟩ := hr
    rw [Tr.size] at hd
    refine ret_k (limit_walk.ok _ _ _ _ _ ?_)
    unfold limit_walk
    refine nz_i ?_
    rw [add_mk]
    refine (h.node hm).ldP (o := 0 + 2) rfl ?_
    refine br_no rfl ?_
    refine nz_i ?_
    rw [add_mk]
    refine (h.node hm).ldP (o := 0 + 2) rfl ?_
    refine lt_as (wrap_i64 (by omega) (by omega)) ?_
    refine ihl (deep := deep + 1) h hl ho.1 (by omega) fun w h => ⟨rfl, ?_⟩
    refine nz_i ?_
    rw [add_mk]
    refine (h.node hm).ldP (o := 0 + 3) rfl ?_
    refine lt_as (wrap_i64 (by omega) (by omega)) ?_
    refine ihr (deep := deep + 1) h hr (by rw [wset_length]; exact ho.2) (by omega) fun w h => ⟨rfl, ?_⟩
    exact hk w h

/-- trees put together, two by two -/
def dT : WT := (0, .leaf 0)
def hlast (H : List WT) : WT := (hmid kW H).getD (H.length - 1) dT
def hstep (H : List WT) : List WT := hpush kW (hrest kW (hrest kW H)) ((hlast H).1 + (hlast (hrest kW H)).1, .nd (hlast H).2 (hlast (hrest kW H)).2)
def hrun : Nat → List WT → Tr
  | 0, H => (hlast H).2
  | f + 1, H => if 1 < H.length then hrun f (hstep H) else (hlast H).2
def plT (xs : List Int) : Tr := hrun (comeL xs).length ((comeL xs).foldl (fun H i => hpush kW H (xs.getD i 0, .leaf i)) [])
def gE (x : HE) : WT := (x.2.1, x.2.2)

section
variable {F0 : List Nat} {w0 w : World} {ps rest : List As} {s : Sl} {hb : Nat} {H : List HE} {N : List Nd} {M : Int} {xs : List Int}

theorem hrest_length {α : Type} {k : α → Int} (H : List α) : (hrest k H).length = H.length - 1 := by
  unfold hrest
  rw [List.length_take, hmid_length]; omega
theorem hrest_mem {α : Type} {k : α → Int} {H : List α} : ∀ x ∈ hrest k H, x ∈ H := fun x hx => hmid_mem x (List.mem_of_mem_take hx)
theorem hlast_map (H : List HE) (h : H.length - 1 < (hmid kE H).length) : hlast (H.map gE) = gE ((hmid kE H)[H.length - 1]) := by
  unfold hlast
  rw [hmid_map (k := kE) (k' := kW) (g := gE) (fun _ => rfl), List.length_map, List.getD, List.getElem?_map, List.getElem?_eq_getElem h]
  rfl
/-- trees' bounds -/
def okT (n k : Nat) (H : List HE) : Prop := ∀ x ∈ H, x.2.2.ok n ∧ x.2.2.size + 1 ≤ 2 ^ (k + 1)
theorem okT.mono {n k k' : Nat} {H : List HE} (h : okT n k H) (hk : k ≤ k') : okT n k' H := fun x hx => ⟨(h x hx).1, Nat.le_trans (h x hx).2 (Nat.pow_le_pow_right (by decide) (by omega))⟩

theorem limit_Plain.merge {t4 : Sl} {o : List Int} {R : Tr} {K : Ending → World → Prop} (h : St F0 w0 w (hpL hb s H N (ownA 1 t4 (ivs .i64 o) :: ps))) (hok : okH N 16777216 H) (hT : okT o.length 0 H) (h1 : 1 ≤ H.length) (hl : H.length ≤ 20)
    (hR : hrun H.length (H.map gE) = R) (hk : ∀ w', St F0 w0 w' (ownA 1 t4 (ivs .i64 (wset R 0 o)) :: ps) → K (.returned (.tuple ⟨[.slice t4.a t4.len t4.cap, .int .i64 0]⟩)) w') :
    limit_Plain.j4 t4 (some ⟨hb, 0, none⟩) (fun v w' => K (.returned v) w') w := by
  unfold limit_Plain.j4
  refine loop0 (fun (a : Nat × List HE × List Nd × Sl) w' => hrun a.2.1.length (a.2.1.map gE) = R ∧ okH a.2.2.1 (16777216 * (2 ^ a.1 : Nat)) a.2.1 ∧ okT o.length a.1 a.2.1 ∧ 1 ≤ a.2.1.length ∧ a.2.1.length + a.1 ≤ 20 ∧ St F0 w0 w' (hpL hb a.2.2.2 a.2.1 a.2.2.1 (ownA 1 t4 (ivs .i64 o) :: ps))) (fun a => a.2.1.length) (0, H, N, s) ⟨hR, hok.mono (fun _ h => h) (by simp), hT, h1, hl, h⟩ ?_
  clear h hok hT h1 hl hR
  rintro ⟨k, H, N, s⟩ wL I μ ⟨hR, hok, hT, h1, hl, h⟩ hin
  simp only at hR hok hT h1 hl h hin ⊢
  have hsl : s.len = H.length := by
    have := h.drop.len
    rw [ptrs_len] at this
    omega
  unfold limit_Plain.b1
  refine nz_i ?_
  refine h.fL (b := hb) (o := 0) ?_
  refine limit_trees_Len.c (s := s) ⟨_, rfl, ?_⟩
  refine br_d (fun g => ?_) (fun g => ?_)
  · have hkp : 2 ^ k ≤ 2 ^ 20 := Nat.pow_le_pow_right (by decide) (by omega)
    rw [show (2 : Nat) ^ 20 = 1048576 from rfl] at hkp
    refine limit_trees_take.c h hok (by omega) (by omega) fun s1 w hx1 h => ⟨_, rfl, ?_⟩
    have hok1 := hok.sub (hrest_mem (k := kE) (H := H))
    have hl1 := hrest_length (k := kE) H
    refine limit_trees_take.c h hok1 (by omega) (by omega) fun s2 w hx2 h => ⟨_, rfl, ?_⟩
    have hok2 := hok1.sub (hrest_mem (k := kE) (H := hrest kE H))
    have hl2 := hrest_length (k := kE) (hrest kE H)
    have m1 := hmid_mem (k := kE) _ (List.getElem_mem hx1)
    have m2 := hmid_mem (k := kE) _ (List.getElem_mem hx2)
    have m2' := hrest_mem _ m2
    have q1 := hlast_map H hx1
    have q2 := hlast_map (hrest kE H) hx2
    generalize (hmid kE H)[H.length - 1] = x1 at m1 q1
    generalize (hmid kE (hrest kE H))[(hrest kE H).length - 1] = x2 at m2 m2' q2
    obtain ⟨⟨y1, a1, c1, n1⟩, r1, p1, b1⟩ := hok x1 m1
    obtain ⟨⟨y2, a2, c2, n2⟩, r2, p2, b2⟩ := hok x2 m2'
    obtain ⟨t1, z1⟩ := hT x1 m1
    obtain ⟨t2, z2⟩ := hT x2 m2'
    refine h.drewK fun w h => ?_
    refine nz_i ?_
    rw [add_mk]
    refine (h.node n1).ldI (o := 0 + 0) rfl ?_
    refine nz_i ?_
    rw [add_mk]
    refine (h.node n2).ldI (o := 0 + 0) rfl ?_
    dsimp only
    have hb1 : x1.2.1 ≤ 17592186044416 := by omega
    have hb2 : x2.2.1 ≤ 17592186044416 := by omega
    refine lt_as (wrap_i64 (by omega) (by omega)) ?_
    refine h.new fun nb w h => ?_
    have h := St.nodeI (b := nb) (x := ((nb, x1.2.1 + x2.2.1, 0, some x1.1, some x2.1) : Nd)) rfl h
    have hsub : ∀ x ∈ N, x ∈ ((nb, x1.2.1 + x2.2.1, 0, some x1.1, some x2.1) : Nd) :: N := fun x hx => List.mem_cons_of_mem _ hx
    have ep : 2 ^ (k + 1) = 2 * 2 ^ k := by rw [Nat.pow_succ, Nat.mul_comm]
    have hnew : okH (((nb, x1.2.1 + x2.2.1, 0, some x1.1, some x2.1) : Nd) :: N) (16777216 * (2 ^ (k + 1) : Nat)) (hrest kE (hrest kE H) ++ [((nb, x1.2.1 + x2.2.1, Tr.nd x1.2.2 x2.2.2) : HE)]) := by
      intro x hx
      rcases List.mem_append.1 hx with hx | hx
      · exact hok2.mono hsub (by rw [ep]; omega) x hx
      · rw [List.mem_singleton] at hx
        subst hx
        refine ⟨⟨_, _, _, List.mem_cons_self⟩, ⟨_, _, _, _, List.mem_cons_self, reps_mono hsub _ _ r1, reps_mono hsub _ _ r2⟩, ?_, ?_⟩
        · show 0 ≤ x1.2.1 + x2.2.1; omega
        · show x1.2.1 + x2.2.1 ≤ _; rw [ep]; omega
    refine heap_Push.c (x := ((nb, x1.2.1 + x2.2.1, Tr.nd x1.2.2 x2.2.2) : HE)) h hnew (by omega) fun s3 w h => ⟨rfl, ⟨rfl, rfl⟩, ?_⟩
    have hpl : (hpush kE (hrest kE (hrest kE H)) ((nb, x1.2.1 + x2.2.1, Tr.nd x1.2.2 x2.2.2) : HE)).length = H.length - 1 := by rw [hpush_length]; omega
    refine hin (k + 1, hpush kE (hrest kE (hrest kE H)) ((nb, x1.2.1 + x2.2.1, Tr.nd x1.2.2 x2.2.2) : HE), _, s3) _ ⟨?_, hnew.sub ?_, ?_, by simp only; omega, by simp only; omega, h⟩ (by simp only; omega)
    · simp only
      rw [hpl, ← hpush_map (k := kE) (k' := kW) (g := gE) (fun _ => rfl), ← hR]
      have hrm : ∀ H : List HE, (hrest kE H).map gE = hrest kW (H.map gE) := fun H => (hrest_map (k := kE) (k' := kW) (g := gE) (fun _ => rfl) H).symm
      obtain ⟨f, hf⟩ : ∃ f, H.length = f + 1 := ⟨H.length - 1, by omega⟩
      rw [hf, hrun, if_pos (by rw [List.length_map]; omega), hstep, ← hrm, q2, ← hrm, q1]
      rfl
    · intro x hx
      rcases hpush_mem x hx with hx | rfl
      · exact List.mem_append_left _ hx
      · simp
    · intro x hx
      rcases hpush_mem x hx with hx | rfl
      · exact (hT.mono (Nat.le_succ _)) x (hrest_mem _ (hrest_mem _ hx))
      · refine ⟨⟨t1, t2⟩, ?_⟩
        show x1.2.2.size + x2.2.2.size + 1 + 1 ≤ 2 ^ (k + 1 + 1)
        rw [Nat.pow_succ 2 (k + 1)]
        omega
  · have hH1 : H.length = 1 := by omega
    unfold limit_Plain.j5
    refine limit_trees_take.c h hok (by omega) (by omega) fun s1 w hx1 h => ⟨_, rfl, ?_⟩
    have m1 := hmid_mem (k := kE) _ (List.getElem_mem hx1)
    have q1 := hlast_map H hx1
    generalize (hmid kE H)[H.length - 1] = x1 at m1 q1
    obtain ⟨_, r1, _⟩ := hok x1 m1
    obtain ⟨t1, z1⟩ := hT x1 m1
    have e : R = x1.2.2 := by
      rw [← hR, hH1, hrun, if_neg (by rw [List.length_map]; omega), q1]
      rfl
    have h : St F0 w0 w (ndsA N :: ownA 1 t4 (ivs .i64 o) :: ps) := h.sub
    have hkp : 2 ^ (k + 1) ≤ 2 ^ 21 := Nat.pow_le_pow_right (by decide) (by omega)
    rw [show (2 : Nat) ^ 21 = 2097152 from rfl] at hkp
    refine limit_walk.c x1.2.2 (deep := 0) h r1 t1 (by omega) fun w h => ⟨rfl, ?_⟩
    rw [← e] at h
    exact hk w h.drop

theorem limit_Plain.c {K : Ending → World → Prop} (h : St F0 w0 w ps) [Rdb F0 w0 s ps 1 (ivs .i64 xs)] (hg : goodX xs) (h1 : 1 ≤ (comeL xs).length) (h20 : (comeL xs).length ≤ 20)
    (hk : ∀ t w', t.len = xs.length → St F0 w0 w' (ownA 1 t (ivs .i64 (wset (plT xs) 0 (List.replicate xs.length 0))) :: ps) → K (.returned (.tuple ⟨[.slice t.a t.len t.cap, .int .i64 0]⟩)) w') :
    Calls Try.prog 35 ⟨[.slice s.a s.len s.cap]⟩ w K := by
  have hl := (h.rdb s).1
  rw [ivs_length] at hl
  have hlg := hg.1
  refine ret_k (limit_Plain.ok _ _ _ ?_)
  unfold limit_Plain
  refine limit_bad.c (s := s) h fun b w hgb hb h => ⟨b, rfl, ?_⟩
  refine br_b (fun g => ?_) (fun g => ?_)
  · exfalso
    rcases hb g with e | ⟨x, hx, e⟩
    · omega
    · exact hg.2 x hx e
  unfold limit_Plain.j1
  refine h.makeI (n := xs.length) (by omega) (by omega) (by omega) fun t4 w ht4 hc4 h => ?_
  refine h.new fun rb w h => ?_
  have h : St F0 w0 w (blkA rb [] :: ownA 1 t4 (ivs .i64 (List.replicate xs.length 0)) :: ps) := h
  refine h.new fun hb w h => ?_
  have h : St F0 w0 w (blkA hb [.slice (some ⟨rb, 0, none⟩) 0 0] :: blkA rb [] :: ownA 1 t4 (ivs .i64 (List.replicate xs.length 0)) :: ps) := h
  have h : St F0 w0 w (ownA 1 ⟨some ⟨rb, 0, none⟩, 0, 0⟩ (ptrs []) :: blkA hb [.slice (some ⟨rb, 0, none⟩) 0 0] :: ownA 1 t4 (ivs .i64 (List.replicate xs.length 0)) :: ps) := h.at1.own0
  have h : St F0 w0 w (hpL hb ⟨some ⟨rb, 0, none⟩, 0, 0⟩ [] [] (ownA 1 t4 (ivs .i64 (List.replicate xs.length 0)) :: ps)) := h.add (f' := []) (p' := noA) (Mod.refl _ _) rfl (Gr.refl _ _)
  unfold limit_Plain.j2
  refine limit_come.c (s := s) h (by omega) fun t6 w ht6 h => ⟨t6, rfl, ?_⟩
  have h : St F0 w0 w (hpL hb ⟨some ⟨rb, 0, none⟩, 0, 0⟩ [] [] (ownA 1 t4 (ivs .i64 (List.replicate xs.length 0)) :: ownA 1 t6 (nvs (comeL xs)) :: ps)) := h.sub
  unfold limit_Plain.j6
  refine loop1 (fun (a : Nat × List HE × List Nd × Sl) (i' : Int) w' => i' = a.1 ∧ a.1 ≤ (comeL xs).length ∧ a.2.1.length = a.1 ∧ a.2.1.map gE = ((comeL xs).take a.1).foldl (fun H i => hpush kW H (xs.getD i 0, .leaf i)) [] ∧ okH a.2.2.1 16777216 a.2.1 ∧ okT xs.length 0 a.2.1 ∧ St F0 w0 w' (hpL hb a.2.2.2 a.2.1 a.2.2.1 (ownA 1 t4 (ivs .i64 (List.replicate xs.length 0)) :: ownA 1 t6 (nvs (comeL xs)) :: ps))) (fun a => (comeL xs).length - a.1) (0, [], [], ⟨some ⟨rb, 0, none⟩, 0, 0⟩)
    ⟨rfl, by omega, rfl, rfl, fun x hx => (by cases hx), fun x hx => (by cases hx), h⟩ ?_
  clear h
  rintro ⟨i, H, N, s3⟩ i' wL I μ ⟨rfl, hi, hHl, hH, hok, hT, h⟩ hin
  simp only at hi hHl hH hok hT h hin ⊢
  unfold limit_Plain.b2
  refine br_d (fun g => ?_) (fun g => ?_)
  · have hic : i < (comeL xs).length := by omega
    have hcm := mem_come.1 (List.getElem_mem hic)
    have hv := hg.2 _ (mem_getD hcm.1)
    unfold badN at hv
    refine h.lx (s := t6) i rfl (by rw [List.length_map]; exact hic) ?_
    rw [symsN_get hic]
    refine h.lx (s := s) ((comeL xs)[i]) rfl hcm.1 ?_
    refine h.new fun nb w h => ?_
    have h := St.nodeI (b := nb) (x := ((nb, xs.getD ((comeL xs)[i]) 0, ((comeL xs)[i] : Nat), none, none) : Nd)) rfl h
    have hsub : ∀ x ∈ N, x ∈ ((nb, xs.getD ((comeL xs)[i]) 0, ((comeL xs)[i] : Nat), none, none) : Nd) :: N := fun x hx => List.mem_cons_of_mem _ hx
    have hnew : okH (((nb, xs.getD ((comeL xs)[i]) 0, ((comeL xs)[i] : Nat), none, none) : Nd) :: N) 16777216 (H ++ [((nb, xs.getD ((comeL xs)[i]) 0, Tr.leaf ((comeL xs)[i])) : HE)]) := by
      intro x hx
      rcases List.mem_append.1 hx with hx | hx
      · exact hok.mono hsub (Int.le_refl _) x hx
      · rw [List.mem_singleton] at hx
        subst hx
        refine ⟨⟨_, _, _, List.mem_cons_self⟩, ⟨_, List.mem_cons_self⟩, ?_, ?_⟩
        · show 0 ≤ xs.getD _ 0; omega
        · show xs.getD _ 0 ≤ _; omega
    refine heap_Push.c (x := ((nb, xs.getD ((comeL xs)[i]) 0, Tr.leaf ((comeL xs)[i])) : HE)) h hnew (by omega) fun s4 w h => ⟨rfl, ?_⟩
    refine lt_as (wrap_i64 (by omega) (by omega)) ?_
    refine ⟨⟨rfl, rfl, rfl, rfl, rfl⟩, hin (i + 1, hpush kE H ((nb, xs.getD ((comeL xs)[i]) 0, Tr.leaf ((comeL xs)[i])) : HE), _, s4) _ _ ⟨by simp only; omega, by simp only; omega, by simp only; rw [hpush_length]; omega, ?_, hnew.sub ?_, ?_, h⟩ (by simp only; omega)⟩
    · simp only
      rw [← hpush_map (k := kE) (k' := kW) (g := gE) (fun _ => rfl), hH, List.take_succ_eq_append_getElem hic, List.foldl_append]
      rfl
    · intro x hx
      rcases hpush_mem x hx with hx | rfl
      · exact List.mem_append_left _ hx
      · simp
    · intro x hx
      rcases hpush_mem x hx with hx | rfl
      · exact hT x hx
      · exact ⟨hcm.1, by show 1 + 1 ≤ 2 ^ 1; decide⟩
  · have : i = (comeL xs).length := by omega
    subst this
    rw [List.take_length] at hH
    have hs3 : s3.len = H.length := by
      have := h.drop.len
      rw [ptrs_len] at this
      omega
    unfold limit_Plain.j3
    refine nz_i ?_
    refine h.fL (b := hb) (o := 0) ?_
    refine limit_trees_Len.c (s := s3) ⟨_, rfl, ?_⟩
    refine br_no (by
      have : ((s3.len : Nat) : Int) ≠ 0 := by omega
      simpa using this) ?_
    refine limit_Plain.merge (R := plT xs) h hok (by rw [List.length_replicate]; exact hT) (by omega) (by omega) (by rw [hHl, hH]; rfl) fun w h => ?_
    exact hk t4 w ht4 (h.tail fun _ _ _ h => h.drop)

theorem trovelaw6_known.c {K : Ending → World → Prop} (h : St F0 w0 w ps) (hk : ∀ w', St F0 w0 w' ps → K (.returned (.bool true)) w') : Calls Try.prog 9 ⟨[]⟩ w K := by
  refine ret_k (trovelaw6_known.ok _ _ ?_)
  unfold trovelaw6_known
  refine h.new fun nb w h => ?_
  have h : St F0 w0 w (blkA nb (ivs .i64 [1, 1, 2, 4]) :: ps) := h
  have h := h.ownB (n := 4) rfl
  refine limit_Plain.c (s := ⟨some ⟨nb, 0, none⟩, 4, 4⟩) (xs := [1, 1, 2, 4]) h (by decide) (by decide) (by decide) fun t1 w h1 h => ⟨t1, 0, rfl, ?_⟩
  have e1 : wset (plT [1, 1, 2, 4]) 0 (List.replicate ([1, 1, 2, 4] : List Int).length 0) = [3, 3, 2, 1] := by kernel_rfl
  rw [e1] at h
  have le : leastE [1, 1, 2, 4] 2 = 0 := by decide
  refine limit_Lengths.c (s := ⟨some ⟨nb, 0, none⟩, 4, 4⟩) (xs := [1, 1, 2, 4]) (m := 2) h (fun t2 w _ h2 h => ⟨t2, 0, rfl, ?_⟩) (fun w e _ => absurd le e)
  have e2 : lenP [1, 1, 2, 4] (2 : Int).toNat = [2, 2, 2, 2] := by kernel_rfl
  rw [e2] at h
  refine limit_Least.c (s := ⟨some ⟨nb, 0, none⟩, 4, 4⟩) (xs := [1, 1, 2, 4]) (m := 2) h fun w h => ⟨_, _, rfl, ?_⟩
  rw [le]
  have e3 : costD [1, 1, 2, 4] (2 : Int).toNat = 16 := by kernel_rfl
  rw [if_pos rfl, e3]
  refine lt_as (show _ = (0 : Int) by decide) (lt_as (show _ = (0 : Int) by decide) ?_)
  refine br_is rfl ?_
  have h1 : t1.len = 4 := h1
  have h2 : t2.len = 4 := h2
  refine br_is (by rw [h1]; rfl) ?_
  refine h.lx (s := t1) 3 rfl (by decide) ?_
  refine br_is rfl ?_
  refine h.lx (s := t1) 0 rfl (by decide) ?_
  refine br_is rfl ?_
  refine br_is (by rw [h2]; rfl) ?_
  refine h.lx (s := t2) 0 rfl (by decide) ?_
  refine br_is rfl ?_
  exact hk w h.sub
end
end Go.Proofs.Ythdmmmfgjmmelaa

/- Best codes: the statements. Own work. -/
namespace Go.Proofs.Ythdmmmfgjmmelaa
open Go Go.Proofs
set_option linter.unusedVariables false
set_option linter.unusedSimpArgs false
attribute [local irreducible] apK cpK mkK br

/-! ### the lengths as a code -/
def cntI (xs : List Int) (i : Nat) : List Nat := (List.range i).filter fun j => decide (0 < xs.getD j 0)
theorem cntI_succ (xs : List Int) (i : Nat) : cntI xs (i + 1) = cntI xs i ++ if 0 < xs.getD i 0 then [i] else [] := by
  unfold cntI
  rw [List.range_succ, List.filter_append, List.filter_cons, List.filter_nil]
  by_cases h : 0 < xs.getD i 0
  · rw [if_pos h, if_pos (decide_eq_true h)]
  · rw [if_neg h, if_neg (by simpa using h)]
theorem cntI_sum (xs : List Int) (g : Nat → Nat) (i d : Nat) : ((cntI xs i).map g).sum ≤ ((cntI xs (i + d)).map g).sum := by
  induction d with
  | zero => exact Nat.le_refl _
  | succ d ih =>
    rw [← Nat.add_assoc, cntI_succ, List.map_append, List.sum_append]
    omega
theorem cntI_len (xs : List Int) (i : Nat) : (cntI xs i).length ≤ i := Nat.le_trans (List.length_filter_le _ _) (by simp)

section
variable {xs : List Int} {M : Nat}
theorem lenP_ok (h : (comeL xs).length ≤ 2 ^ M) (h1 : 1 ≤ M) (hM : M ≤ 15) : okL (lenP xs M) := by
  intro x hx
  obtain ⟨i, hi, rfl⟩ := List.mem_iff_getElem.1 hx
  have e : (lenP xs M)[i] = (lenP xs M).getD i 0 := by rw [List.getD, List.getElem?_eq_getElem hi]; rfl
  rw [lenP_length] at hi
  rw [e, lenP_getD hi]
  have := lenF_ok h h1 hi
  omega
theorem kr_sum (h : (comeL xs).length ≤ 2 ^ M) (h1 : 1 ≤ M) : kr (lenP xs M) = ((comeL xs).map fun i => 2 ^ (15 - lenF xs M i)).sum := by
  unfold kr lenP mapR
  rw [List.map_map]
  have := come_sum xs (fun i => decide (0 < xs.getD i 0)) (fun i => 2 ^ (15 - lenF xs M i)) xs.length
  unfold comeL
  rw [← this]
  congr 1
  refine List.map_congr_left fun i hi => ?_
  have h2 := lenF_ok h h1 (List.mem_range.1 hi)
  show (if 0 < ((lenF xs M i : Nat) : Int) then 2 ^ (15 - ((lenF xs M i : Nat) : Int).toNat) else 0) = _
  rw [Int.toNat_natCast]
  by_cases h0 : 0 < xs.getD i 0
  · rw [if_pos (by omega), if_pos (by simpa using h0)]
  · rw [if_neg (by omega), if_neg (by simpa using h0)]
theorem few_sum {g : Nat → Nat} (h : (comeL xs).length = 1) : ((comeL xs).map fun i => g (lenF xs M i)).sum = g 1 := by
  obtain ⟨c, hc⟩ := List.length_eq_one_iff.1 h
  have hm : c ∈ comeL xs := by rw [hc]; exact List.mem_singleton.2 rfl
  have : lenF xs M c = 1 := by
    unfold lenF
    rw [if_pos (by omega), if_pos (mem_come.1 hm).2]
  rw [hc]
  simp [this]
theorem kr_lenP (h : (comeL xs).length ≤ 2 ^ M) (h1 : 1 ≤ M) (hM : M ≤ 15) : kr (lenP xs M) ≤ 32768 ∧ (2 ≤ (comeL xs).length → kr (lenP xs M) = 32768) := by
  rw [kr_sum h h1]
  rcases Nat.lt_or_ge (comeL xs).length 2 with h2 | h2
  · refine ⟨?_, fun h => by omega⟩
    rcases Nat.lt_or_ge 0 (comeL xs).length with h3 | h3
    · rw [few_sum (g := fun x => 2 ^ (15 - x)) (by omega)]; decide
    · rw [List.length_eq_zero_iff.1 (show (comeL xs).length = 0 by omega)]; simp
  · have := lenF_full h h2 15 hM
    rw [this]
    exact ⟨by decide, fun _ => by decide⟩
theorem lenP_chk (hg : xs.length ≤ 288) (h : (comeL xs).length ≤ 2 ^ M) (h1 : 1 ≤ M) (hM : M ≤ 15) : (hchk (lenP xs M)).2 = 0 ∧ (hchk (lenP xs M)).1 = decide (kr (lenP xs M) = 32768) := by
  have hk := (kr_lenP h h1 hM).1
  unfold hchk
  rw [if_neg (by rw [lenP_length]; omega), if_neg (fun e => e (lenP_ok h h1 hM)), if_neg (by omega)]
  exact ⟨rfl, rfl⟩
theorem lenP_new (hg : xs.length ≤ 288) (h : (comeL xs).length ≤ 2 ^ M) (h1 : 1 ≤ M) (hM : M ≤ 15) : hnew (lenP xs M) true = 0 := by
  obtain ⟨hc, hc2⟩ := lenP_chk hg h h1 hM
  unfold hnew
  rw [if_neg (fun e => e hc), hc2]
  rcases Nat.lt_or_ge (comeL xs).length 2 with h2 | h2
  · rw [if_neg]
    rintro ⟨_, e⟩
    rw [Bool.true_and, hhalf_eq (lenP_ok h h1 hM)] at e
    have e := of_decide_eq_false e
    have e2 : (lenP xs M).filter (0 < ·) = (comeL xs).map fun _ => (1 : Int) := by
      unfold lenP mapR
      rw [List.filter_map]
      unfold comeL
      have e3 : ∀ l : List Nat, (∀ i ∈ l, i < xs.length) → (l.filter ((fun x => decide ((0 : Int) < x)) ∘ fun i => (lenF xs M i : Int))).map (fun i => (lenF xs M i : Int)) = (l.filter fun i => decide (0 < xs.getD i 0)).map fun _ => (1 : Int) := by
        intro l
        induction l with
        | nil => intro _; rfl
        | cons a l ih =>
          intro hl
          rw [List.filter_cons, List.filter_cons]
          have : lenF xs M a = if 0 < xs.getD a 0 then 1 else 0 := by unfold lenF; rw [if_pos h2]
          have ih := ih (fun i hi => hl i (by simp [hi]))
          by_cases h0 : 0 < xs.getD a 0
          · rw [if_pos h0] at this
            rw [if_pos (by simp [this]), if_pos (by simpa using h0), List.map_cons, List.map_cons, ih, this]; rfl
          · rw [if_neg h0] at this
            rw [if_neg (by simp [this]), if_neg (by simpa using h0), ih]
      exact e3 _ (fun i hi => List.mem_range.1 hi)
    rw [e2] at e
    have e4 : ∀ l : List Nat, (l.map fun _ => (1 : Int)).sum = l.length := by
      intro l
      induction l with
      | nil => rfl
      | cons a l ih => rw [List.map_cons, List.sum_cons, ih, List.length_cons]; omega
    rw [e4] at e
    omega
  · rw [if_neg]
    rintro ⟨e, _⟩
    have := of_decide_eq_false e
    exact this ((kr_lenP h h1 hM).2 h2)
/-- products, sums stay small -/
theorem dot_small (hg : goodX xs) (h : (comeL xs).length ≤ 2 ^ M) (h1 : 1 ≤ M) (hM : M ≤ 15) : (∀ i, i < xs.length → 0 ≤ (lenP xs M).getD i 0 * xs.getD i 0 ∧ (lenP xs M).getD i 0 * xs.getD i 0 ≤ 251658240) ∧ ∀ i, i ≤ xs.length → 0 ≤ dotN (lenP xs M) xs i ∧ dotN (lenP xs M) xs i ≤ 251658240 * i := by
  have hprod : ∀ i, i < xs.length → 0 ≤ (lenP xs M).getD i 0 * xs.getD i 0 ∧ (lenP xs M).getD i 0 * xs.getD i 0 ≤ 251658240 := by
    intro i hi
    rw [lenP_getD hi]
    have h2 := hg.2 _ (mem_getD hi)
    unfold badN at h2
    have h3 := lenF_ok h h1 hi
    have h7 := Int.mul_nonneg (show (0 : Int) ≤ lenF xs M i by omega) (show (0 : Int) ≤ xs.getD i 0 by omega)
    have h8 : (lenF xs M i : Int) * xs.getD i 0 ≤ 15 * 16777216 := Int.mul_le_mul (by omega) (by omega) (by omega) (by decide)
    exact ⟨h7, by omega⟩
  refine ⟨hprod, fun i => ?_⟩
  induction i with
  | zero => intro _; simp [dotN]
  | succ i ih =>
    intro hi
    have := ih (by omega)
    have := hprod i (by omega)
    rw [dotN_succ]
    omega
end

section
variable {F0 : List Nat} {w0 w : World} {ps rest : List As} {s t : Sl} {xs : List Int} {M : Nat}

theorem trovelaw6_cost.c {K : Ending → World → Prop} (h : St F0 w0 w ps) [Rdb F0 w0 t ps 1 (ivs .i64 (lenP xs M))] [Rdb F0 w0 s ps 1 (ivs .i64 xs)] (hg : goodX xs) (hc : (comeL xs).length ≤ 2 ^ M) (h1 : 1 ≤ M) (hM : M ≤ 15)
    (hk : ∀ w', St F0 w0 w' ps → K (.returned (.int .i64 (costD xs M))) w') : Calls Try.prog 15 ⟨[.slice t.a t.len t.cap, .slice s.a s.len s.cap]⟩ w K := by
  have hl := (h.rdb s).1
  have hl2 := (h.rdb t).1
  rw [ivs_length] at hl hl2
  rw [lenP_length] at hl2
  have hlg := hg.1
  obtain ⟨d1, d2⟩ := dot_small hg hc h1 hM
  rw [← dot_cost] at hk
  refine ret_k (trovelaw6_cost.ok _ _ _ _ ?_)
  unfold trovelaw6_cost trovelaw6_cost.j1 trovelaw6_cost.j3
  refine loop2 (fun (i : Nat) (n : Int) (i' : Int) w' => i' = i ∧ i ≤ xs.length ∧ n = dotN (lenP xs M) xs i ∧ St F0 w0 w' ps) (fun i => xs.length - i) 0 ⟨rfl, by omega, rfl, h⟩ ?_
  clear h
  rintro i n i' wL I μ ⟨rfl, hi, rfl, h⟩ hin
  unfold trovelaw6_cost.b1
  have fin : i = xs.length → trovelaw6_cost.j2 (dotN (lenP xs M) xs i) (fun v w' => K (.returned v) w') wL := by
    intro e
    subst e
    exact hk wL h
  refine br_d (fun g => ?_) (fun g => fin (by omega))
  refine br_d (fun g2 => ?_) (fun g2 => fin (by omega))
  have hix : i < xs.length := by omega
  have := d1 i hix
  have := d2 i hi
  refine h.drewK fun w h => ?_
  refine h.lx (s := t) i rfl (by rw [lenP_length]; exact hix) ?_
  refine h.lx (s := s) i rfl hix ?_
  refine lt_as (wrap_i64 (by omega) (by omega)) ?_
  refine lt_as (wrap_i64 (by omega) (by omega)) ?_
  refine lt_as (wrap_i64 (by omega) (by omega)) ?_
  exact ⟨⟨rfl, rfl⟩, hin (i + 1) _ _ _ ⟨by omega, by omega, (dotN_succ _ _ _).symm, h⟩ (by omega)⟩

theorem trovelaw6_whole.c {K : Ending → World → Prop} (h : St F0 w0 w ps) [Rdb F0 w0 t ps 1 (ivs .i64 (lenP xs M))] [Rdb F0 w0 s ps 1 (ivs .i64 xs)] (hg : goodX xs) (hc : (comeL xs).length ≤ 2 ^ M) (h1 : 1 ≤ M) (hM : M ≤ 15)
    (hk : ∀ w', St F0 w0 w' ps → K (.returned (.bool true)) w') : Calls Try.prog 14 ⟨[.slice t.a t.len t.cap, .slice s.a s.len s.cap, .int .i64 (M : Int)]⟩ w K := by
  have hl := (h.rdb s).1
  have hl2 := (h.rdb t).1
  rw [ivs_length] at hl hl2
  rw [lenP_length] at hl2
  have hlg := hg.1
  have tot : ((comeL xs).map fun i => 2 ^ (60 - lenF xs M i)).sum = if (comeL xs).length = 0 then 0 else if (comeL xs).length = 1 then 576460752303423488 else 1152921504606846976 := by
    split
    · rename_i h0
      rw [List.length_eq_zero_iff.1 h0]; rfl
    · split
      · rename_i h1
        rw [few_sum (g := fun x => 2 ^ (60 - x)) h1]
      · rw [lenF_full hc (by omega) 60 (by omega)]
  have tot2 : ((comeL xs).map fun i => 2 ^ (60 - lenF xs M i)).sum ≤ 1152921504606846976 := by
    rw [tot]
    split
    · omega
    · split <;> omega
  refine ret_k (trovelaw6_whole.ok _ _ _ _ _ ?_)
  unfold trovelaw6_whole
  refine br_no (by
    have : t.len = s.len := by omega
    simp [this]) ?_
  unfold trovelaw6_whole.j1 trovelaw6_whole.j2 trovelaw6_whole.j4
  refine loop3 (fun (i : Nat) (n f : Int) (i' : Int) w' => i' = i ∧ i ≤ xs.length ∧ n = ((cntI xs i).length : Nat) ∧ f = (((cntI xs i).map fun i => 2 ^ (60 - lenF xs M i)).sum : Nat) ∧ St F0 w0 w' ps) (fun i => xs.length - i) 0 ⟨rfl, by omega, rfl, rfl, h⟩ ?_
  clear h
  rintro i n f i' wL I μ ⟨rfl, hi, rfl, rfl, h⟩ hin
  unfold trovelaw6_whole.b1
  refine br_d (fun g => ?_) (fun g => ?_)
  · have hix : i < xs.length := by omega
    obtain ⟨f1, f2⟩ := lenF_ok hc h1 hix
    have hx := hg.2 _ (mem_getD hix)
    unfold badN at hx
    have hcl := cntI_len xs i
    have hle : ((cntI xs (i + 1)).map fun i => 2 ^ (60 - lenF xs M i)).sum ≤ 1152921504606846976 := by
      refine Nat.le_trans (cntI_sum xs _ (i + 1) (xs.length - (i + 1))) ?_
      rw [show i + 1 + (xs.length - (i + 1)) = xs.length by omega]
      exact tot2
    rw [cntI_succ, List.map_append, List.sum_append] at hle
    refine h.drewK fun w h => ?_
    refine h.lx (s := t) i rfl (by rw [lenP_length]; exact hix) ?_
    refine h.lx (s := s) i rfl hix ?_
    rw [lenP_getD hix]
    refine br_no (by
      have : decide ((lenF xs M i : Int) > 0) = decide (xs.getD i 0 > 0) := decide_eq_decide.2 ⟨fun e => by omega, fun e => by omega⟩
      rw [this]; simp) ?_
    refine h.lx (s := t) i rfl (by rw [lenP_length]; exact hix) ?_
    rw [lenP_getD hix]
    refine br_d (fun g2 => by omega) (fun _ => ?_)
    refine h.lx (s := t) i rfl (by rw [lenP_length]; exact hix) ?_
    rw [lenP_getD hix]
    refine br_d (fun g2 => by omega) (fun _ => ?_)
    refine h.lx (s := t) i rfl (by rw [lenP_length]; exact hix) ?_
    rw [lenP_getD hix]
    refine br_d (fun g2 => by omega) (fun _ => ?_)
    refine h.lx (s := t) i rfl (by rw [lenP_length]; exact hix) ?_
    rw [lenP_getD hix]
    refine br_d (fun g2 => ?_) (fun g2 => ?_)
    · have h0 : 0 < xs.getD i 0 := by omega
      rw [if_pos h0] at hle
      simp only [List.map_cons, List.map_nil, List.sum_cons, List.sum_nil] at hle
      refine lt_as (wrap_i64 (by omega) (by omega)) ?_
      refine h.lx (s := t) i rfl (by rw [lenP_length]; exact hix) ?_
      rw [lenP_getD hix]
      refine lt_as (wrap_i64 (by omega) (by omega)) ?_
      have ex : (60 : Int) - (lenF xs M i : Int) = ((60 - lenF xs M i : Nat) : Int) := by omega
      rw [ex]
      refine lt_as (wrap_u64t (by omega) (by omega)) ⟨by omega, ?_⟩
      have hsh : shlV .i64 1 ((60 - lenF xs M i : Nat) : Int) = ((2 ^ (60 - lenF xs M i) : Nat) : Int) := by
        have e : ((1 : Int) * 2 ^ (60 - lenF xs M i)) = ((2 ^ (60 - lenF xs M i) : Nat) : Int) := by simp
        rw [shlV_lit .i64 (t := 60 - lenF xs M i) rfl (by show 60 - lenF xs M i ≤ 64; omega) (by decide) (by
          rw [e]
          show _ < (9223372036854775808 : Int)
          omega), e]
      refine lt_as hsh ?_
      clear hsh
      have e3 : ((cntI xs (i + 1)).map fun i => 2 ^ (60 - lenF xs M i)).sum = ((cntI xs i).map fun i => 2 ^ (60 - lenF xs M i)).sum + 2 ^ (60 - lenF xs M i) := by
        rw [cntI_succ, if_pos h0, List.map_append, List.sum_append]
        simp
      generalize 2 ^ (60 - lenF xs M i) = q at hle e3
      refine lt_as (wrap_i64 (by omega) (by omega)) ?_
      refine lt_as (wrap_i64 (by omega) (by omega)) ?_
      refine ⟨⟨rfl, rfl, rfl⟩, hin (i + 1) _ _ _ _ ⟨by omega, by omega, ?_, ?_, h⟩ (by omega)⟩
      · rw [cntI_succ, if_pos h0, List.length_append, List.length_singleton]; omega
      · rw [e3]
        omega
    · have h0 : ¬ 0 < xs.getD i 0 := by omega
      refine lt_as (wrap_i64 (by omega) (by omega)) ?_
      refine ⟨⟨rfl, rfl, rfl⟩, hin (i + 1) _ _ _ _ ⟨by omega, by omega, ?_, ?_, h⟩ (by omega)⟩
      · rw [cntI_succ, if_neg h0, List.append_nil]
      · rw [cntI_succ, if_neg h0, List.append_nil]
  · have : i = xs.length := by omega
    subst this
    have ec : cntI xs xs.length = comeL xs := rfl
    rw [ec, tot]
    unfold trovelaw6_whole.j3
    refine br_b (fun g2 => hk wL h) (fun g2 => ?_)
    have g2 : ((comeL xs).length : Int) ≠ 0 := by simpa using g2
    refine br_b (fun g3 => ?_) (fun g3 => ?_)
    · have g3 : ((comeL xs).length : Int) = 1 := by simpa using g3
      rw [if_neg (by omega), if_pos (by omega)]
      exact hk wL h
    · have g3 : ((comeL xs).length : Int) ≠ 1 := by simpa using g3
      rw [if_neg (by omega), if_neg (by omega)]
      exact hk wL h
end

theorem trovelaw6_LimitBest.law (s : Sl) (m : Int) (xs : List Int) (W : World) (hr : Rd W 1 s (ivs .i64 xs)) (hx : ∀ n ∈ xs, (Lit.int .i64 n).wf = true) (hm : (Lit.int .i64 m).wf = true) :
    Calls Try.prog 4 ⟨[.slice s.a s.len s.cap, .int .i64 m]⟩ W fun e w' => e = .returned (.bool true) ∧ Mod [] W w' := by
  refine ret_k (trovelaw6_LimitBest.ok _ _ _ _ ?_)
  unfold trovelaw6_LimitBest
  have hl1 := hr.1
  rw [ivs_length] at hl1
  haveI : ∀ ps, Rdb [] W s ps 1 (ivs .i64 xs) := fun ps => Rdb.start hr
  refine trovelaw6_known.c (St.start0 (w := W)) fun w h => ⟨_, rfl, br_f1 ?_⟩
  refine br_d (fun _ => ⟨rfl, h.mod⟩) fun g1 => ?_
  refine limit_Lengths.c (s := s) (m := m) h (fun t w e0 ht h => ⟨t, 0, rfl, ?_⟩) (fun w e1 h => ⟨⟨none, 0, 0⟩, _, rfl, ?_⟩)
  · obtain ⟨hg, hm1, hm15, hc⟩ := leastE_ok e0
    obtain ⟨M, rfl⟩ : ∃ M : Nat, m = M := ⟨m.toNat, by omega⟩
    rw [Int.toNat_natCast] at h hc
    refine limit_Least.c (s := s) (m := M) h fun w h => ⟨_, _, rfl, ?_⟩
    refine troveref6_Least.c (s := s) (m := M) h fun w h => ⟨_, _, rfl, ?_⟩
    rw [e0]
    refine br_no (by simp) (br_no (by simp) (br_no (by simp) (br_no (by simp) ?_)))
    refine huff_Check.c (s := t) h fun w h => ⟨_, _, rfl, ?_⟩
    rw [(lenP_chk hg.1 hc (by omega) (by omega)).1]
    refine br_is rfl ?_
    refine trovelaw6_whole.c (t := t) (s := s) (xs := xs) (M := M) h hg hc (by omega) (by omega) fun w h => ⟨_, rfl, br_t1 ?_⟩
    refine trovelaw6_cost.c (t := t) (s := s) (xs := xs) (M := M) h hg hc (by omega) (by omega) fun w h => ⟨_, rfl, ?_⟩
    rw [if_pos rfl, Int.toNat_natCast]
    exact ⟨by simp, h.mod⟩
  · refine limit_Least.c (s := s) (m := m) h fun w h => ⟨_, _, rfl, ?_⟩
    refine troveref6_Least.c (s := s) (m := m) h fun w h => ⟨_, _, rfl, ?_⟩
    refine br_no (by simp) (br_no (by simp) (br_no (by simp) (br_is (by simpa using e1) ?_)))
    exact ⟨rfl, h.mod⟩

theorem good_rep {n : Nat} (h : n ≤ 288) : goodX (List.replicate n 3) := ⟨by rw [List.length_replicate]; exact h, fun x hx => by rw [(List.mem_replicate.1 hx).2]; decide⟩
theorem come_rep (n : Nat) : (comeL (List.replicate n 3)).length = n := by
  rw [← filter_length, List.filter_eq_self.2 (fun a ha => by rw [(List.mem_replicate.1 ha).2]; rfl), List.length_replicate]

theorem trovelaw6_LimitWider.law (s : Sl) (m n : Int) (xs : List Int) (W : World) (hr : Rd W 1 s (ivs .i64 xs)) (hx : ∀ n ∈ xs, (Lit.int .i64 n).wf = true) (hm : (Lit.int .i64 m).wf = true) (hn : (Lit.int .i64 n).wf = true) :
    Calls Try.prog 3 ⟨[.slice s.a s.len s.cap, .int .i64 m, .int .i64 n]⟩ W fun e w' => e = .returned (.bool true) ∧ Mod [] W w' := by
  refine ret_k (trovelaw6_LimitWider.ok _ _ _ _ _ ?_)
  unfold trovelaw6_LimitWider
  have hl1 := hr.1
  rw [ivs_length] at hl1
  haveI : ∀ ps, Rdb [] W s ps 1 (ivs .i64 xs) := fun ps => Rdb.start hr
  refine trovelaw6_known.c (St.start0 (w := W)) fun w h => ⟨_, rfl, br_f1 ?_⟩
  unfold trovelaw6_LimitWider.j1
  refine br_d (fun _ => ⟨rfl, h.mod⟩) fun g1 => ?_
  refine br_d (fun _ => ⟨rfl, h.mod⟩) fun g2 => ?_
  refine br_d (fun _ => ⟨rfl, h.mod⟩) fun g3 => ?_
  refine br_d (fun _ => ⟨rfl, h.mod⟩) fun g4 => ?_
  refine br_d (fun _ => ⟨rfl, h.mod⟩) fun g5 => ?_
  obtain ⟨N, rfl⟩ : ∃ N : Nat, n = N := ⟨n.toNat, by omega⟩
  have hN : 2 ^ N ≤ 2 ^ 8 := Nat.pow_le_pow_right (by decide) (by omega)
  rw [show (2 : Nat) ^ 8 = 256 from rfl] at hN
  have j3 : ∀ w, St [] W w [] → trovelaw6_LimitWider.j3 (N : Int) (fun v w' => Ending.returned v = .returned (.bool true) ∧ Mod [] W w') w := by
    intro w h
    unfold trovelaw6_LimitWider.j3
    refine lt_as (wrap_u64t (by omega) (by omega)) ⟨by omega, ?_⟩
    have hsh : shlV .i64 1 (N : Int) = ((2 ^ N : Nat) : Int) := by
      have e : ((1 : Int) * 2 ^ N) = ((2 ^ N : Nat) : Int) := by simp
      rw [shlV_lit .i64 (t := N) rfl (by show N ≤ 64; omega) (by decide) (by
        rw [e]
        show _ < (9223372036854775808 : Int)
        omega), e]
    refine lt_as hsh ?_
    refine h.makeI (n := 2 ^ N) rfl rfl (by omega) fun t w ht hcp h => ?_
    unfold trovelaw6_LimitWider.j4 trovelaw6_LimitWider.j6
    refine loop1 (fun (i : Nat) (i' : Int) w' => i' = i ∧ i ≤ 2 ^ N ∧ St [] W w' [ownA 1 t (ivs .i64 (List.replicate i 3 ++ List.replicate (2 ^ N - i) 0))]) (fun i => 2 ^ N - i) 0 ⟨rfl, by omega, h⟩ ?_
    clear h
    rintro i i' wL I μ ⟨rfl, hi, h⟩ hin
    unfold trovelaw6_LimitWider.b1
    refine br_d (fun g => ?_) (fun g => ?_)
    · have hix : i < 2 ^ N := by omega
      refine h.sx (s := t) i rfl (by rw [List.length_append, List.length_replicate, List.length_replicate]; omega) fun w h => ?_
      refine lt_as (wrap_i64 (by omega) (by omega)) ?_
      refine ⟨⟨rfl, rfl⟩, hin (i + 1) _ _ ⟨by omega, by omega, ?_⟩ (by omega)⟩
      rw [set_nx (by rw [List.length_replicate]) (by omega), ← List.replicate_succ', show 2 ^ N - i - 1 = 2 ^ N - (i + 1) by omega] at h
      exact h
    · have : i = 2 ^ N := by omega
      subst this
      rw [Nat.sub_self, List.replicate_zero, List.append_nil] at h
      unfold trovelaw6_LimitWider.j5
      have eL : leastE (List.replicate (2 ^ N) 3) N = 0 := by
        unfold leastE
        rw [if_neg (fun e => by
          rcases e with e | e | e
          · exact e (good_rep (by omega))
          · omega
          · omega), Int.toNat_natCast, if_neg (by rw [come_rep]; omega)]
      have eL2 : leastE (List.replicate (2 ^ N + 1) 3) N = 7 := by
        unfold leastE
        rw [if_neg (fun e => by
          rcases e with e | e | e
          · exact e (good_rep (by omega))
          · omega
          · omega), Int.toNat_natCast, if_pos (by rw [come_rep]; omega)]
      refine limit_Least.c (s := t) (m := N) h fun w h => ⟨_, _, rfl, ?_⟩
      refine h.pushI (s := t) (by rw [List.length_replicate]; omega) fun t2 w h => ?_
      rw [← List.replicate_succ'] at h
      refine limit_Least.c (s := t2) (m := N) h fun w h => ⟨_, _, rfl, ?_⟩
      rw [eL, eL2]
      refine br_is rfl ?_
      refine lt_as (wrap_i64 (by omega) (by omega)) ?_
      rw [if_pos rfl, Int.toNat_natCast, costD_same (by omega) 3 (by decide), ht]
      have em : (3 * (N : Int)) * ((2 ^ N : Nat) : Int) = (N : Int) * (((2 ^ N : Nat) : Int) * 3) := by
        rw [Int.mul_comm 3, Int.mul_assoc, Int.mul_comm 3]
      have hb : 0 ≤ (3 * (N : Int)) * ((2 ^ N : Nat) : Int) ∧ (3 * (N : Int)) * ((2 ^ N : Nat) : Int) ≤ 24 * 256 :=
        ⟨Int.mul_nonneg (by omega) (by omega), Int.mul_le_mul (by omega) (by omega) (by omega) (by decide)⟩
      refine lt_as (wrap_i64 (by omega) (by omega)) ?_
      refine br_is (by rw [em]; simp) ?_
      exact ⟨rfl, h.mod⟩
  refine limit_Least.c (s := s) (m := m) h fun w h => ⟨_, _, rfl, ?_⟩
  unfold trovelaw6_LimitWider.j2
  refine lt_as (wrap_i64 (by omega) (by omega)) ?_
  refine limit_Least.c (s := s) (m := m + 1) h fun w h => ⟨_, _, rfl, ?_⟩
  refine br_b (fun g => ?_) (fun g => j3 w h)
  have e0 : leastE xs m = 0 := by simpa using g
  obtain ⟨hg, hm1, hm15, hc⟩ := leastE_ok e0
  have e1 : leastE xs (m + 1) = 0 := by
    have hp : 2 ^ m.toNat ≤ 2 ^ (m + 1).toNat := Nat.pow_le_pow_right (by decide) (by omega)
    unfold leastE
    rw [if_neg (fun e => by
      rcases e with e | e | e
      · exact e hg
      · omega
      · omega), if_neg (by omega)]
  rw [e0, e1]
  refine br_no rfl ?_
  refine br_d (fun g => ?_) (fun _ => j3 w h)
  exfalso
  have := costD_wide hc
  rw [show m.toNat + 1 = (m + 1).toNat by omega] at this
  simp only [if_pos] at g
  omega
end Go.Proofs.Ythdmmmfgjmmelaa

