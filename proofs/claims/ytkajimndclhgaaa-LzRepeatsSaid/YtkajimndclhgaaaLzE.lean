/- Tokens put behind; what is found. Own work. -/
import Derived.Test.YtkajimndclhgaaaLzD
import Derived.Test.YtkajimndclhgaaaGLzL
namespace Go.Proofs.Ytkajimndclhgaaa
open Go Go.Proofs
set_option linter.unusedVariables false
set_option linter.unusedSimpArgs false
attribute [local irreducible] apK cpK mkK br

/-- a type of tokens -/
class ElT (P : Program) (e : TypeId) : Prop where
  info : ∃ i, P.info? e = some i ∧ i.size = 3 ∧ i.bytes ≠ 0 ∧ i.bytes ≤ 48
  zc : (Go.Proofs.Ytkajimndclhgaaa.zc P e).size = 3
instance elt_tok : ElT Try.prog 78 := ⟨⟨Try.t78, by kernel_rfl, rfl, by decide, by decide⟩, by kernel_rfl⟩
instance elt_rtok : ElT Try.prog 158 := ⟨⟨Try.t158, by kernel_rfl, rfl, by decide, by decide⟩, by kernel_rfl⟩

theorem spl_tok (t : Tk) : spl [.int .u8 0, .int .i64 0, .int .i64 0] 0 ⟨tkC t⟩ = tkC t := by kernel_rfl

theorem tks_storable {L : List Tk} : ∀ v ∈ (⟨tks L⟩ : Array Value), storable v := by
  intro v hv
  have hv : v ∈ tks L := by simpa using hv
  induction L with
  | nil => simp [tri] at hv
  | cons t L ih =>
    have : tks (t :: L) = tkC t ++ tks L := by simp [tri, tkC]
    rw [this] at hv
    rcases List.mem_append.1 hv with hv | hv
    · exact tkC_storable t v (by simpa using hv)
    · exact ih (by simpa using hv) hv

theorem tks_take (L : List Tk) : ∀ i, (tks L).take (i * 3) = tks (L.take i) := by
  induction L with
  | nil => intro i; simp [tri]
  | cons t L ih =>
    intro i
    have e : ∀ L : List Tk, tks (t :: L) = tkC t ++ tks L := by intro L; simp [tri, tkC]
    cases i with
    | zero => simp [tri]
    | succ i =>
      rw [List.take_succ_cons, e, e, ← ih i, show (i + 1) * 3 = 3 + i * 3 by omega]
      rw [List.take_append, List.take_of_length_le (by simp [tkC]), show 3 + i * 3 - (tkC t).length = i * 3 by simp [tkC]]

section
variable {F0 : List Nat} {w0 w : World} {ps rest : List As} {P : Program} {e : TypeId} {s : Sl} {L : List Tk} {xs : List Int}

theorem St.pushT {t : Tk} {K : Sl → World → Prop} [he : ElT P e] (h : St F0 w0 w ps) [PkO s ps 3 (tks L) rest] (hlen : L.length ≤ 1000000000)
    (hk : ∀ s' w', s'.len = s.len + 1 → St F0 w0 w' (ownA 3 s' (tks (L ++ [t])) :: rest) → K s' w') :
    lt (⟨World.heapSize w, 0, none⟩ : Addr) fun a => lt (World.alloc w (.cells ⟨spl [.int .u8 0, .int .i64 0, .int .i64 0] 0 ⟨tkC t⟩⟩ e)) fun w1 => rdO w1 (some a) (1 * 3) fun c => apK P e w1 s.a s.len s.cap 1 c K := by
  rw [spl_tok]
  refine (h.toO s).new fun nb w h => ?_
  have h : St F0 w0 w (blkA nb (tkC t) :: ownA 3 s (tks L) :: rest) := h
  refine h.rdB rfl ?_
  have h := h.drop
  have hl := h.len
  rw [tri_length] at hl
  obtain ⟨i, h1, h2, h3, h4⟩ := he.info
  refine St.append (i := i) (sz := 3) (m := 1) h1 h2 (by decide) he.zc h3 ?_ h rfl (tkC_storable t) fun s' w' h hl' => hk s' w' hl' (by rw [tks_snoc]; exact h)
  refine Nat.le_trans (Nat.mul_le_mul_left _ h4) ?_
  omega

theorem St.ownB3 {nb n : Nat} {l : List Value} (h : St F0 w0 w (blkA nb l :: ps)) (hn : l.length = n * 3) : St F0 w0 w (ownA 3 ⟨some ⟨nb, 0, none⟩, n, n⟩ l :: ps) := by
  refine h.mp ?_
  rintro F ⟨hb, rfl⟩
  exact Or.inr ⟨nb, [], rfl, by simpa using hb, hn, by simpa using hn, rfl⟩

/-- append(row, row...) -/
theorem St.appT {K : Sl → World → Prop} {s2 : Sl} {L2 : List Tk} [he : ElT P e] (h : St F0 w0 w ps) [PkO s ps 3 (tks L2) rest] [Rdb F0 w0 s2 ps 3 (tks L)] (hlen : L.length + L2.length ≤ 1000000000)
    (hk : ∀ s' w', s'.len = s.len + L.length → St F0 w0 w' (ownA 3 s' (tks (L2 ++ L)) :: rest) → K s' w') :
    rdO w s2.a (s2.len * 3) fun c => apK P e w s.a s.len s.cap s2.len c K := by
  have hr := h.rdb s2
  have hl := hr.1
  refine hr.rdO hl.symm ?_
  rw [tri_length] at hl
  have h := h.toO s
  have hl2 := h.len
  rw [tri_length] at hl2
  obtain ⟨i, h1, h2, h3, h4⟩ := he.info
  refine St.append (i := i) (sz := 3) (m := s2.len) h1 h2 (by decide) he.zc h3 ?_ h (by show (tks L).length = _; rw [tri_length]; omega) tks_storable fun s' w' h hl' => hk s' w' (by omega) (by rw [show tks (L2 ++ L) = tks L2 ++ tks L by simp [tri]]; exact h)
  refine Nat.le_trans (Nat.mul_le_mul_left _ h4) ?_
  omega

theorem slices_Clip_tok.c {cs : List Value} {K : Ending → World → Prop} (h : St F0 w0 w (rdA 3 s cs :: ps)) (hc : s.len ≤ s.cap)
    (hk : ∀ s' : Sl, s'.len = s.len → s'.cap = s.len → St F0 w0 w (rdA 3 s' cs :: ps) → K (.returned (.slice s'.a s'.len s'.cap)) w) : Calls Try.prog 131 ⟨[.slice s.a s.len s.cap]⟩ w K := by
  refine ret_k (slices_Clip_lz_Token.ok _ _ _ ?_)
  unfold slices_Clip_lz_Token
  refine ⟨⟨by omega, by omega⟩, ⟨by omega, by omega⟩, lt_i ?_⟩
  refine hk ⟨_, _, _⟩ (by simp) (by simp) (h.recap ?_ (by simp))
  show cutA s.a _ 0 3 = s.a
  unfold cutA
  split
  · rfl
  · cases s.a with
    | none => rfl
    | some a => simp [Addr.add]

theorem findL_step {b : List Int} {looks at' : Nat} (h : at' < b.length) : findL b looks (b.length - at') at' = (stepL b looks at').1 :: findL b looks (b.length - (at' + (stepL b looks at').2)) (at' + (stepL b looks at').2) := by
  obtain ⟨f, hf⟩ : ∃ f, b.length - at' = f + 1 := ⟨b.length - at' - 1, by omega⟩
  rw [hf, findL, if_pos h]
  congr 1
  have := stepL_pos b looks at'
  exact findL_fuel _ _ _ _ _ (by omega) (by omega)

theorem findL_makes (b : List Int) (looks : Nat) : ∀ f at', b.length - at' ≤ f → at' ≤ b.length → Makes b at' (findL b looks f at') b.length := by
  intro f
  induction f with
  | zero =>
    intro at' h1 h2
    have : at' = b.length := by omega
    subst this; exact Makes.nil _
  | succ f ih =>
    intro at' h1 h2
    rw [findL]
    split
    · rename_i hlt
      have hp := stepL_pos b looks at'
      have hle := stepL_le b looks at' hlt
      have hr := ih (at' + (stepL b looks at').2) (by omega) hle
      revert hr
      unfold stepL
      simp only
      split
      · intro hr; exact Makes.lit hlt hr
      · rename_i h3
        intro hr
        rcases bestL_good b at' looks with h4 | ⟨h4, h5, h6, h7, h8, h9⟩
        · omega
        · exact Makes.copy (by omega) h4 h5 h6 h7 h8 h9 hr
    · have : at' = b.length := by omega
      subst this; exact Makes.nil _

def looksOf (e : Int) : Nat := (if 4096 < e then 4096 else e).toNat
theorem looksOf_le (e : Int) : looksOf e ≤ 4096 := by unfold looksOf; split <;> omega

theorem looks_eq (e : Int) : (if (4096 : Int) < (if (0 : Int) > e then 0 else e) then 4096 else (if (0 : Int) > e then 0 else e)) = (looksOf e : Int) := by
  unfold looksOf
  by_cases h1 : (0 : Int) > e
  · rw [if_pos h1, if_neg (by decide), if_neg (by omega)]; omega
  · rw [if_neg h1]
    by_cases h2 : 4096 < e
    · rw [if_pos h2]; rfl
    · rw [if_neg h2]; omega

theorem lz_Find.c {e : Int} {K : Ending → World → Prop} (h : St F0 w0 w ps) [Rdb F0 w0 s ps 1 (u8s xs)] (hb : ∀ x ∈ xs, 0 ≤ x ∧ x < 256) (hc : s.len ≤ s.cap) (hlen : xs.length ≤ 262144)
    (hk : ∀ s' w', s'.len = (findL xs (looksOf e) xs.length 0).length → s'.cap = s'.len → St F0 w0 w' (rdA 3 s' (tks (findL xs (looksOf e) xs.length 0)) :: ps) → K (.returned (.slice s'.a s'.len s'.cap)) w') :
    Calls Try.prog 72 ⟨[.slice s.a s.len s.cap, .int .i64 e]⟩ w K := by
  have hl := (h.rdb s).1
  rw [ivs_length] at hl
  refine ret_k (lz_Find.ok _ _ _ _ ?_)
  unfold lz_Find lz_Find.j1
  refine br_d (fun g => by omega) (fun _ => ?_)
  refine h.mmake fun mb w h => ?_
  refine h.new fun fb w h => ?_
  have h := (h.nil 1).at2.at2
  have h : St F0 w0 w (finA fb mb s ⟨none, 0, 0⟩ [] [] :: ps) := fin_c h
  unfold lz_Find.j2
  refine lt_i (lt_as (looks_eq e) ?_)
  have hlk := looksOf_le e
  generalize looksOf e = looks at hk hlk ⊢
  unfold lz_Find.j3 lz_Find.j5
  refine loop2 (fun (u : Nat × List Tk × Sl × List ((Int × Int × Int) × Int) × List Int) (o : Sl) (at' : Int) w' => at' = u.1 ∧ u.1 ≤ xs.length ∧ u.2.1.length ≤ u.1 ∧ u.2.1 ++ findL xs looks (xs.length - u.1) u.1 = findL xs looks xs.length 0 ∧ FOK xs u.2.2.2.1 u.2.2.2.2 u.1 ∧ St F0 w0 w' (ownA 3 o (tks u.2.1) :: finA fb mb s u.2.2.1 u.2.2.2.1 u.2.2.2.2 :: ps)) (fun u => xs.length - u.1) (0, [], ⟨none, 0, 0⟩, [], [])
    ⟨rfl, by simp, by simp, by simp, ⟨rfl, by simp, fun _ => KM.nil xs, fun j hj _ => absurd hj (Nat.not_lt_zero j)⟩, h.nil 3⟩ ?_
  clear h
  rintro ⟨a, L, p, E, P⟩ o at' wL I μ ⟨rfl, ha, hLa, hf, hF, h⟩ hin
  simp only at ha hLa hf hF h hin ⊢
  unfold lz_Find.b1
  refine br_d (fun g => ?_) (fun g => ?_)
  · have hlt : a < xs.length := by omega
    rw [findL_step hlt] at hf
    unfold lz_Find.j6
    have hle := stepL_le xs looks a hlt
    have hp := stepL_pos xs looks a
    refine lz_finder_best.c (xs := xs) h.at1 hb hc (by omega) hF ha hlk fun w h => ⟨_, _, rfl, ?_⟩
    unfold lz_Find.j7
    refine h.tokN (t := (0, ((bestL xs a looks).1 : Int), ((bestL xs a looks).2 : Int))) fun nb w h => ?_
    have fin : ∀ (t : Tk) (n : Nat) (w : World), (t, n) = stepL xs looks a → St F0 w0 w (blkA nb (tkC t) :: finA fb mb s p E P :: ownA 3 o (tks L) :: ps) → lz_Find.j8 s (some ⟨fb, 0, none⟩) (looks : Int) o (a : Int) (n : Int) ⟨nb, 0, none⟩ (fun v w' => K (.returned v) w') (fun b' f' l' o' at'' w' => (b' = s ∧ f' = some ⟨fb, 0, none⟩ ∧ l' = (looks : Int)) ∧ I o' at'' w' ∧ μ o' at'' w' < μ o (a : Int) wL) w := by
      intro t n w e h
      rw [← e] at hf hle hp
      simp only at hf hle hp
      unfold lz_Find.j8
      refine h.lA rfl ⟨rfl, ?_⟩
      refine h.pushT (s := o) (L := L) (t := t) (by omega) fun o2 w hol h => ?_
      have h : St F0 w0 w (ownA 3 o2 (tks (L ++ [t])) :: finA fb mb s p E P :: ps) := h.sub
      unfold lz_Find.j9
      refine loop2 (fun (v : Nat × Sl × List ((Int × Int × Int) × Int) × List Int) (at' c' : Int) w' => c' = v.1 ∧ at' = ((a + v.1 : Nat) : Int) ∧ v.1 ≤ n ∧ FOK xs v.2.2.1 v.2.2.2 (a + v.1) ∧ St F0 w0 w' (ownA 3 o2 (tks (L ++ [t])) :: finA fb mb s v.2.1 v.2.2.1 v.2.2.2 :: ps)) (fun v => n - v.1) (0, p, E, P) ⟨rfl, rfl, by simp, hF, h⟩ ?_
      clear h
      rintro ⟨c, p2, E2, P2⟩ at2 c' w2 I2 μ2 ⟨rfl, rfl, hcn, hF2, h⟩ hin2
      simp only at hcn hF2 h hin2 ⊢
      unfold lz_Find.b2
      refine br_d (fun g2 => ?_) (fun g2 => ?_)
      · refine lz_finder_add.c (xs := xs) h.at1 hb hc (by omega) hF2 (by omega) fun p3 E3 P3 w h hF3 => ⟨rfl, ?_⟩
        refine lt_as (wrap_i64 (by omega) (by omega)) ?_
        refine lt_as (wrap_i64 (by omega) (by omega)) ?_
        exact ⟨⟨rfl, rfl, rfl, rfl, rfl⟩, hin2 (c + 1, p3, E3, P3) _ _ _ ⟨by simp, by simp only; omega, by simp only; omega, hF3, h.at1⟩ (by simp only; omega)⟩
      · have : c = n := by omega
        subst this
        exact ⟨⟨rfl, rfl, rfl⟩, hin (a + c, L ++ [t], p2, E2, P2) _ _ _ ⟨rfl, hle, by simp; omega, by simpa using hf, hF2, h⟩ (by simp only; omega)⟩
    refine br_d (fun g2 => ?_) (fun g2 => ?_)
    · refine h.lx (s := s) a rfl hlt ?_
      refine ⟨rfl, ?_⟩
      refine h.sA (l := tkC (0, ((bestL xs a looks).1 : Int), ((bestL xs a looks).2 : Int))) (l' := tkC (xs.getD a 0, 0, 0)) rfl rfl (tkC_storable _) fun w h => ?_
      exact fin (xs.getD a 0, 0, 0) 1 w (by unfold stepL; simp only; rw [if_pos (by omega)]) h
    · exact fin _ _ w (by unfold stepL; simp only; rw [if_neg (by omega)]) h
  · have : a = xs.length := by omega
    subst this
    rw [Nat.sub_self, show findL xs looks 0 xs.length = [] from rfl, List.append_nil] at hf
    unfold lz_Find.j4
    have hol := h.len
    rw [tri_length] at hol
    refine slices_Clip_tok.c h.ro (h.cap (by decide)) fun s2 h1 h2 h => ⟨s2, rfl, ?_⟩
    rw [← hf] at hk
    exact hk s2 wL (by omega) (by omega) (h.tail fun _ _ _ h => h.drop)

theorem trovelaw8_of.c {K : Ending → World → Prop} (h : St F0 w0 w ps) [Rdb F0 w0 s ps 3 (tks L)] (hL : L.length ≤ 1000000)
    (hk : ∀ s' w', s'.len = L.length → St F0 w0 w' (ownA 3 s' (tks L) :: ps) → K (.returned (.slice s'.a s'.len s'.cap)) w') : Calls Try.prog 65 ⟨[.slice s.a s.len s.cap]⟩ w K := by
  have hl := (h.rdb s).1
  rw [tri_length] at hl
  refine ret_k (trovelaw8_of.ok _ _ _ ?_)
  unfold trovelaw8_of trovelaw8_of.j1 trovelaw8_of.j3
  refine loop2 (fun (i : Nat) (o : Sl) (i' : Int) w' => i' = i ∧ i ≤ L.length ∧ o.len = i ∧ St F0 w0 w' (ownA 3 o (tks (L.take i)) :: ps)) (fun i => L.length - i) 0 ⟨rfl, by omega, rfl, h.nil 3⟩ ?_
  clear h
  rintro i o i' wL I μ ⟨rfl, hi, ho, h⟩ hin
  unfold trovelaw8_of.b1
  refine br_d (fun g => ?_) (fun g => ?_)
  · have hil : i < L.length := by omega
    refine h.ltok (s := s) i rfl hil ⟨rfl, ?_⟩
    refine h.pushT (s := o) (t := L[i]) (by rw [List.length_take]; omega) fun o2 w h2 h => ?_
    rw [← List.take_succ_eq_append_getElem hil] at h
    refine lt_as (wrap_i64 (by omega) (by omega)) ?_
    exact ⟨rfl, hin (i + 1) _ _ _ ⟨by omega, by omega, by omega, h⟩ (by omega)⟩
  · have : i = L.length := by omega
    subst this
    rw [List.take_length] at h
    unfold trovelaw8_of.j2
    exact hk o wL ho h

/-! ### bytes -/

theorem tkCopy_b (d : Int) : ∀ k (out : List Int), (∀ x ∈ out, 0 ≤ x ∧ x < 256) → ∀ x ∈ tkCopy d k out, 0 ≤ x ∧ x < 256 := by
  intro k
  induction k with
  | zero => intro out h; exact h
  | succ k ih =>
    intro out h
    rw [tkCopy]
    refine ih _ fun x hx => ?_
    rcases List.mem_append.1 hx with hx | hx
    · exact h x hx
    · have : x = out.getD (out.length - d.toNat) 0 := by simpa using hx
      subst this
      rcases Nat.lt_or_ge (out.length - d.toNat) out.length with h1 | h1
      · rw [List.getD, List.getElem?_eq_getElem h1]
        exact h _ (List.getElem_mem h1)
      · rw [List.getD, List.getElem?_eq_none h1]
        decide

theorem tkAll_b (most : Int) : ∀ (L : List Tk) (out : List Int), (∀ t ∈ L, 0 ≤ t.1 ∧ t.1 < 256) → (∀ x ∈ out, 0 ≤ x ∧ x < 256) → ∀ x ∈ (tkAll most out L).1, 0 ≤ x ∧ x < 256 := by
  intro L
  induction L with
  | nil => intro out _ h; exact h
  | cons t L ih =>
    intro out hL h
    rw [tkAll]
    split
    · intro x hx; simp at hx
    · refine ih _ (fun t ht => hL t (List.mem_cons_of_mem _ ht)) ?_
      unfold tkExp
      split
      · intro x hx
        rcases List.mem_append.1 hx with hx | hx
        · exact h x hx
        · have : x = t.1 := by simpa using hx
          subst this; exact hL t (by simp)
      · exact tkCopy_b _ _ _ h

theorem tkExpand_b {most : Int} (hL : ∀ t ∈ L, 0 ≤ t.1 ∧ t.1 < 256) : ∀ x ∈ (tkExpand L most).1, 0 ≤ x ∧ x < 256 := by
  unfold tkExpand
  split
  · intro x hx; simp at hx
  · split
    · intro x hx; simp at hx
    · exact tkAll_b _ _ _ hL (by simp)

end

end Go.Proofs.Ytkajimndclhgaaa
