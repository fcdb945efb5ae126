/- The laws of tokens. Own work. -/
import Derived.Test.YtkajimndclhgaaaLzE
namespace Go.Proofs.Ytkajimndclhgaaa
open Go Go.Proofs
set_option linter.unusedVariables false
set_option linter.unusedSimpArgs false
attribute [local irreducible] apK cpK mkK br

section
variable {F0 : List Nat} {w0 w : World} {ps rest : List As} {s : Sl} {L : List Tk} {xs : List Int}

theorem trovelaw8_known.c {K : Ending → World → Prop} (h : St F0 w0 w ps) (hk : ∀ w', St F0 w0 w' ps → K (.returned (.bool true)) w') : Calls Try.prog 64 ⟨[]⟩ w K := by
  refine ret_k (trovelaw8_known.ok _ _ ?_)
  unfold trovelaw8_known
  rw [show spl (spl [.int .u8 0, .int .i64 0, .int .i64 0, .int .u8 0, .int .i64 0, .int .i64 0] 0 (⟨[.int .u8 97, .int .i64 0, .int .i64 0]⟩ : Array Value)) 3 (⟨[.int .u8 0, .int .i64 5, .int .i64 1]⟩ : Array Value) = tks [(97, 0, 0), (0, 5, 1)] by kernel_rfl]
  refine ⟨rfl, rfl, ?_⟩
  refine h.new fun nb w h => ?_
  have h : St F0 w0 w (blkA nb (tks [(97, 0, 0), (0, 5, 1)]) :: ps) := h
  have h := h.ownB3 (n := 2) rfl
  refine lz_Expand.c (s := ⟨some ⟨nb, 0, none⟩, 2, 2⟩) (L := [(97, 0, 0), (0, 5, 1)]) h (by decide) (by decide) fun s1 w h1 _ h => ⟨s1, _, rfl, ?_⟩
  refine lz_Expand.c (s := ⟨some ⟨nb, 0, none⟩, 2, 2⟩) (L := [(97, 0, 0), (0, 5, 1)]) h (by decide) (by decide) fun s2 w h2 _ h => ⟨s2, _, rfl, ?_⟩
  rw [show tkExpand [(97, 0, 0), (0, 5, 1)] 10 = ([97, 97, 97, 97, 97, 97], 0) by kernel_rfl, show tkExpand [(97, 0, 0), (0, 5, 1)] 5 = ([], 5) by kernel_rfl] at h
  rw [show tkExpand [(97, 0, 0), (0, 5, 1)] 10 = ([97, 97, 97, 97, 97, 97], 0) by kernel_rfl, show tkExpand [(97, 0, 0), (0, 5, 1)] 5 = ([], 5) by kernel_rfl]
  refine br_is (by decide) ?_
  refine h.bt (s := s1) (xs := [97, 97, 97, 97, 97, 97]) (by decide) ?_
  refine br_is (by kernel_rfl) (br_is (by decide) ?_)
  refine lz_Size.c (s := ⟨some ⟨nb, 0, none⟩, 2, 2⟩) (L := [(97, 0, 0), (0, 5, 1)]) h (by decide) fun w h => ⟨_, rfl, br_is (by decide) ?_⟩
  rw [show spl [.int .u8 0, .int .i64 0, .int .i64 0] 0 (⟨[.int .u8 0, .int .i64 3, .int .i64 1]⟩ : Array Value) = tks [(0, 3, 1)] by kernel_rfl]
  refine ⟨rfl, ?_⟩
  refine h.new fun nc w h => ?_
  have h : St F0 w0 w (blkA nc (tks [(0, 3, 1)]) :: rdA 1 s2 (u8s []) :: rdA 1 s1 (u8s [97, 97, 97, 97, 97, 97]) :: ownA 3 ⟨some ⟨nb, 0, none⟩, 2, 2⟩ (tks [(97, 0, 0), (0, 5, 1)]) :: ps) := h
  have h := h.ownB3 (n := 1) rfl
  refine lz_Check.c (s := ⟨some ⟨nc, 0, none⟩, 1, 1⟩) (L := [(0, 3, 1)]) h (by decide) fun w h => ⟨_, rfl, br_is (by kernel_rfl) ?_⟩
  refine h.new fun nd w h => ?_
  refine h.str (b := nd) (n := 2) rfl fun w h => ?_
  have hr : Rdb F0 w0 ⟨some ⟨nd, 0, none⟩, 2, 2⟩ (rdA 1 ⟨some ⟨nd, 0, none⟩, 2, 2⟩ (u8s [97, 98]) :: ownA 3 ⟨some ⟨nc, 0, none⟩, 1, 1⟩ (tks [(0, 3, 1)]) :: rdA 1 s2 (u8s []) :: rdA 1 s1 (u8s [97, 97, 97, 97, 97, 97]) :: ownA 3 ⟨some ⟨nb, 0, none⟩, 2, 2⟩ (tks [(97, 0, 0), (0, 5, 1)]) :: ps) 1 (u8s [97, 98]) := inferInstance
  refine lz_Find.c (s := ⟨some ⟨nd, 0, none⟩, 2, 2⟩) (xs := [97, 98]) (e := 0) h (by decide) (Nat.le_refl 2) (by decide) fun s5 w h5 _ h => ⟨s5, rfl, ?_⟩
  have e : s5.len = 2 := h5.trans (by kernel_rfl)
  rw [e]
  exact hk w h.drop.drop.drop.drop.drop.drop

end

theorem trovelaw8_LzTokens.law (s : Sl) (most : Int) (L : List (Int × Int × Int)) (W : World) (hr : Rd W 3 s (tri .u8 .i64 .i64 L)) (hL : ∀ y ∈ L, (Lit.int .u8 y.1).wf = true ∧ (Lit.int .i64 y.2.1).wf = true ∧ (Lit.int .i64 y.2.2).wf = true) (hm : (Lit.int .i64 most).wf = true) :
    Calls Try.prog 11 ⟨[.slice s.a s.len s.cap, .int .i64 most]⟩ W fun e w' => e = .returned (.bool true) ∧ Mod [] W w' := by
  refine ret_k (trovelaw8_LzTokens.ok _ _ _ _ ?_)
  unfold trovelaw8_LzTokens
  have hm := wf_i64 hm
  have hb : ∀ t ∈ L, 0 ≤ t.1 ∧ t.1 < 256 := fun t ht => wf_u8 (hL t ht).1
  have hl := hr.1
  rw [tri_length] at hl
  haveI : ∀ ps, Rdb [] W s ps 3 (tks L) := fun ps => Rdb.start hr
  refine trovelaw8_known.c (St.start0 (w := W)) fun w h => ⟨_, rfl, br_f1 ?_⟩
  refine br_d (fun _ => ⟨rfl, h.mod⟩) fun g1 => ?_
  refine trovelaw8_of.c (s := s) h (by omega) fun o w ho h => ⟨o, rfl, ?_⟩
  refine lz_Expand.c (s := s) h (by omega) (by omega) fun s1 w h1 _ h => ⟨s1, _, rfl, ?_⟩
  refine troveref8_Expand.c (s := o) h (by omega) (by omega) (by omega) fun s2 w h2 h => ⟨s2, _, rfl, ?_⟩
  refine lz_Check.c (s := s) h (by omega) fun w h => ⟨_, rfl, ?_⟩
  refine troveref8_Check.c (s := o) h (by omega) fun w h => ⟨_, rfl, br_is (by simp) ?_⟩
  refine h.bt (s := s1) (tkExpand_b hb) ?_
  refine h.bt (s := s2) (tkExpand_b hb) ?_
  refine br_is (by simp) (br_is (by simp) ?_)
  refine lz_Size.c (s := s) h (by omega) fun w h => ⟨_, rfl, ?_⟩
  refine troveref8_Size.c (s := o) h (by omega) fun w h => ⟨_, rfl, ?_⟩
  refine ⟨?_, h.mod⟩
  simp

theorem trovelaw8_LzFinds.law (s : Sl) (e : Int) (xs : List Int) (W : World) (hr : Rd W 1 s (u8s xs)) (hx : ∀ n ∈ xs, (Lit.int .u8 n).wf = true) (hcap : s.len ≤ s.cap) :
    Calls Try.prog 12 ⟨[.slice s.a s.len s.cap, .int .i64 e]⟩ W fun e w' => e = .returned (.bool true) ∧ Mod [] W w' := by
  refine ret_k (trovelaw8_LzFinds.ok _ _ _ _ ?_)
  unfold trovelaw8_LzFinds
  have hb : ∀ x ∈ xs, 0 ≤ x ∧ x < 256 := fun x h => wf_u8 (hx x h)
  have hl := hr.1
  rw [ivs_length] at hl
  haveI : ∀ ps, Rdb [] W s ps 1 (u8s xs) := fun ps => Rdb.start hr
  refine trovelaw8_known.c (St.start0 (w := W)) fun w h => ⟨_, rfl, br_f1 ?_⟩
  refine br_d (fun _ => ⟨rfl, h.mod⟩) fun g1 => ?_
  refine lz_Find.c (s := s) (xs := xs) (e := e) h hb hcap (by omega) fun t w h1 h2 h => ⟨t, rfl, ?_⟩
  have hmk := findL_makes xs (looksOf e) xs.length 0 (by omega) (by omega)
  have hle := (hmk.le (by omega)).2.2
  have hex := hmk.expand (most := ((s.len : Nat) : Int)) (by omega)
  rw [List.take_length] at hex
  have h0 : ¬ e > 0 → (findL xs (looksOf e) xs.length 0).length = xs.length := by
    intro he
    rw [show looksOf e = 0 by unfold looksOf; rw [if_neg (by omega)]; omega]
    have : ∀ f at', xs.length - at' ≤ f → (findL xs 0 f at').length = xs.length - at' := by
      intro f
      induction f with
      | zero => intro at' h; simp [findL]; omega
      | succ f ih =>
        intro at' h
        rw [findL]
        split
        · have e2 : (stepL xs 0 at').2 = 1 := by
            have e3 : (bestL xs at' 0).1 = 0 := by
              unfold bestL
              split
              · rfl
              · split <;> rfl
            unfold stepL
            simp only
            rw [if_pos (by omega)]
          rw [List.length_cons, e2, ih _ (by omega)]
          omega
        · simp; omega
    have := this xs.length 0 (by omega)
    omega
  refine trovelaw8_of.c (s := t) h (by omega) fun o w ho h => ⟨o, rfl, ?_⟩
  refine troveref8_Expand.c (s := o) h (by omega) (by omega) (by omega) fun s2 w h3 h => ⟨s2, _, rfl, ?_⟩
  rw [hex] at h ⊢
  refine br_no rfl ?_
  refine h.bt (s := s2) hb ?_
  refine h.bt (s := s) hb ?_
  refine br_no (by simp) ?_
  refine br_d (fun g => by omega) fun _ => ?_
  refine br_d (fun _ => ⟨rfl, h.mod⟩) fun g => ?_
  have := h0 g
  refine ⟨?_, h.mod⟩
  have e1 : t.len = s.len := by omega
  simp [e1]

/-! ### repeats -/

def rp (d : List Int) : Nat → List Int
  | 0 => []
  | n + 1 => rp d n ++ d
theorem rp_length (d : List Int) (n : Nat) : (rp d n).length = n * d.length := by
  induction n with
  | zero => simp [rp]
  | succ n ih => rw [rp, List.length_append, ih, Nat.add_mul]; omega
theorem rp_front (d : List Int) (n : Nat) : rp d (n + 1) = d ++ rp d n := by
  induction n with
  | zero => simp [rp]
  | succ n ih =>
    have e : rp d (n + 1) = rp d n ++ d := rfl
    rw [rp, ih, List.append_assoc, ← e, ih]
theorem rp_get (d : List Int) (n i : Nat) (h1 : d.length ≤ i) (h2 : i < (rp d n).length) : (rp d n).getD (i - d.length) 0 = (rp d n).getD i 0 := by
  cases n with
  | zero => simp [rp] at h2
  | succ n =>
    have hl := rp_length d n
    rw [rp, List.length_append] at h2
    rw [List.getD, List.getD]
    conv => rhs; rw [rp_front, List.getElem?_append_right h1]
    rw [rp, List.getElem?_append_left (by omega)]

theorem rp_b {d : List Int} (h : ∀ x ∈ d, 0 ≤ x ∧ x < 256) : ∀ n, ∀ x ∈ rp d n, 0 ≤ x ∧ x < 256 := by
  intro n
  induction n with
  | zero => intro x hx; simp [rp] at hx
  | succ n ih =>
    intro x hx
    rw [rp] at hx
    rcases List.mem_append.1 hx with hx | hx
    · exact ih x hx
    · exact h x hx

theorem trovelaw8_LzRepeats.law (s : Sl) (n e : Int) (xs : List Int) (W : World) (hr : Rd W 1 s (u8s xs)) (hx : ∀ n ∈ xs, (Lit.int .u8 n).wf = true) :
    Calls Try.prog 13 ⟨[.slice s.a s.len s.cap, .int .i64 n, .int .i64 e]⟩ W fun e w' => e = .returned (.bool true) ∧ Mod [] W w' := by
  refine ret_k (trovelaw8_LzRepeats.ok _ _ _ _ _ ?_)
  unfold trovelaw8_LzRepeats
  have hb : ∀ x ∈ xs, 0 ≤ x ∧ x < 256 := fun x h => wf_u8 (hx x h)
  have hl := hr.1
  rw [ivs_length] at hl
  haveI : ∀ ps, Rdb [] W s ps 1 (u8s xs) := fun ps => Rdb.start hr
  refine trovelaw8_known.c (St.start0 (w := W)) fun w h => ⟨_, rfl, br_f1 ?_⟩
  unfold trovelaw8_LzRepeats.j1
  refine br_b (fun _ => ⟨rfl, h.mod⟩) fun g0 => ?_
  have g0 : s.len ≠ 0 := by intro e; rw [e] at g0; simp at g0
  refine br_d (fun _ => ⟨rfl, h.mod⟩) fun g1 => ?_
  refine br_d (fun _ => ⟨rfl, h.mod⟩) fun g2 => ?_
  refine br_d (fun _ => ⟨rfl, h.mod⟩) fun g3 => ?_
  refine br_d (fun _ => ⟨rfl, h.mod⟩) fun g4 => ?_
  obtain ⟨n, rfl⟩ : ∃ t : Nat, n = t := ⟨n.toNat, by omega⟩
  unfold trovelaw8_LzRepeats.j2 trovelaw8_LzRepeats.j4
  refine loop2 (fun (i : Nat) (o : Sl) (i' : Int) w' => i' = i ∧ i ≤ n ∧ St [] W w' [ownA 1 o (u8s (rp xs i))]) (fun i => n - i) 0 ⟨rfl, by omega, h.nil 1⟩ ?_
  clear h
  rintro i o i' wL I μ ⟨rfl, hi, h⟩ hin
  have hrl := rp_length xs i
  have him : i * xs.length ≤ 60 * 100 := Nat.mul_le_mul (by omega) (by omega)
  unfold trovelaw8_LzRepeats.b1
  refine br_d (fun g => ?_) (fun g => ?_)
  · refine h.appI (s := o) (s2 := s) (by omega) fun o2 w h => ?_
    refine lt_as (wrap_i64 (by omega) (by omega)) ?_
    exact ⟨⟨rfl, rfl, rfl⟩, hin (i + 1) _ _ _ ⟨by omega, by omega, h⟩ (by omega)⟩
  · have : i = n := by omega
    subst this
    have hcap := h.cap (by decide)
    have hol := h.len
    rw [ivs_length] at hol
    have hbr := rp_b hb i
    have hrep := rp_get xs i
    generalize hR : rp xs i = b at h hol hbr hrep hrl
    unfold trovelaw8_LzRepeats.j3
    refine lz_Find.c (s := o) (xs := b) (e := e) h hbr hcap (by omega) fun t w h1 h2 h => ⟨t, rfl, ?_⟩
    have hmk := findL_makes b (looksOf e) b.length 0 (by omega) (by omega)
    have hle := (hmk.le (by omega)).2.2
    have hex := hmk.expand (most := ((o.len : Nat) : Int)) (by omega)
    rw [List.take_length] at hex
    have hfew := findL_repeats (b := b) (looks := looksOf e) (R := xs.length) (by omega) (by omega) (by unfold looksOf; split <;> omega) hrep b.length 0 (by omega)
    refine trovelaw8_of.c (s := t) h (by omega) fun o2 w ho h => ⟨o2, rfl, ?_⟩
    refine troveref8_Expand.c (s := o2) h (by omega) (by omega) (by omega) fun s2 w h3 h => ⟨s2, _, rfl, ?_⟩
    rw [hex] at h ⊢
    refine br_is rfl ?_
    refine h.bt (s := s2) hbr ?_
    refine h.bt (s := o) hbr ?_
    refine br_is (by simp) ?_
    refine ⟨by decide, ?_⟩
    have e1 : Int.tdiv ((o.len : Nat) : Int) 200 = ((o.len / 200 : Nat) : Int) := by rfl
    refine lt_as (show IntKind.i64.wrap (Int.tdiv ((o.len : Nat) : Int) 200) = ((o.len / 200 : Nat) : Int) by rw [e1, wrap_i64 (by omega) (by omega)]) ?_
    refine lt_as (wrap_i64 (by omega) (by omega)) ?_
    refine ⟨?_, h.mod⟩
    rw [decide_eq_true (show ((t.len : Nat) : Int) ≤ 110 + ((o.len / 200 : Nat) : Int) by omega)]

/-! ### cuts -/

theorem trovelaw8_LzCuts.law (s : Sl) (c e : Int) (xs : List Int) (W : World) (hr : Rd W 1 s (u8s xs)) (hx : ∀ n ∈ xs, (Lit.int .u8 n).wf = true) (hcap : s.len ≤ s.cap) :
    Calls Try.prog 14 ⟨[.slice s.a s.len s.cap, .int .i64 c, .int .i64 e]⟩ W fun e w' => e = .returned (.bool true) ∧ Mod [] W w' := by
  refine ret_k (trovelaw8_LzCuts.ok _ _ _ _ _ ?_)
  unfold trovelaw8_LzCuts
  have hb : ∀ x ∈ xs, 0 ≤ x ∧ x < 256 := fun x h => wf_u8 (hx x h)
  have hl := hr.1
  rw [ivs_length] at hl
  haveI : ∀ ps, Rdb [] W s ps 1 (u8s xs) := fun ps => Rdb.start hr
  refine trovelaw8_known.c (St.start0 (w := W)) fun w h => ⟨_, rfl, br_f1 ?_⟩
  unfold trovelaw8_LzCuts.j1
  refine br_d (fun _ => ⟨rfl, h.mod⟩) fun g1 => ?_
  refine br_d (fun _ => ⟨rfl, h.mod⟩) fun g2 => ?_
  obtain ⟨c, rfl⟩ : ∃ t : Nat, c = t := ⟨c.toNat, by omega⟩
  refine lz_Find.c (s := s) (xs := xs) (e := e) h hb hcap (by omega) fun t w h1 h2 h => ⟨t, rfl, ?_⟩
  have hmk := findL_makes xs (looksOf e) xs.length 0 (by omega) (by omega)
  generalize findL xs (looksOf e) xs.length 0 = L at h h1 hmk
  have hle := (hmk.le (by omega)).2.2
  unfold trovelaw8_LzCuts.j2
  refine br_d (fun _ => ⟨rfl, h.mod⟩) fun g3 => ?_
  obtain ⟨k, hk1, hk2⟩ := hmk.cut c
  have hkl := (hk1.le (by omega)).2.1
  refine bd_i (n := c) rfl (by omega) (lt_i ?_)
  haveI cutT : ∀ {ps c'} [hi : Rdb [] W t ps 3 (tks L)], Rdb [] W ⟨cutA t.a t.cap 0 3, c - 0, c'⟩ ps 3 (tks (L.take c)) := fun {ps c'} hi => ⟨fun h => by
    have := (hi.rd h).cut (n := 0) (m := c) (by decide) (by omega) (by omega) (by omega) c'
    rw [Nat.zero_mul, List.drop_zero, Nat.sub_zero, tks_take] at this
    exact this⟩
  have hex := hk1.expand (most := ((s.len : Nat) : Int)) (by omega)
  have hsz := hk1.size
  have hsz2 := hmk.size
  have es : ((tkSize (L.take c) : Nat) : Int) = (k : Int) := by unfold tkSize; omega
  have es2 : ((tkSize L : Nat) : Int) = (xs.length : Int) := by unfold tkSize; omega
  have htl : (L.take c).length ≤ L.length := by rw [List.length_take]; omega
  refine lz_Expand.c (s := ⟨cutA t.a t.cap 0 3, c - 0, t.cap - 0⟩) (L := L.take c) h (by omega) (by omega) fun s1 w h3 _ h => ⟨s1, _, rfl, ?_⟩
  rw [hex] at h h3 ⊢
  have h3 : s1.len = k := by simp at h3; omega
  unfold trovelaw8_LzCuts.j3
  refine bd_i (n := c) rfl (by omega) (lt_i ?_)
  refine lz_Size.c (s := ⟨cutA t.a t.cap 0 3, c - 0, t.cap - 0⟩) (L := L.take c) h (by omega) fun w h => ⟨_, rfl, ?_⟩
  rw [es]
  refine h.drewK fun w h => ?_
  refine br_no rfl ?_
  refine br_no (by simp [h3]) ?_
  refine br_d (fun g => by omega) fun _ => ?_
  refine bd_i (n := k) (by omega) (by omega) (lt_i ?_)
  have hbk : ∀ x ∈ xs.take k, 0 ≤ x ∧ x < 256 := fun x hx => hb x (List.mem_of_mem_take hx)
  haveI := h.cutR s 0 k (s.cap - 0) (ys := xs.take k) (by omega) (by omega) hcap (by rw [List.drop_zero, Nat.sub_zero])
  have fin : ∀ (w : World), St [] W w [rdA 1 s1 (u8s (xs.take k)), rdA 3 t (tks L)] → Calls Try.prog 70 ⟨[.slice t.a t.len t.cap]⟩ w fun e w35 => ∃ r36 : Int, e = .returned (.int .i64 r36) ∧ br ((r36 : Int) != ((s.len : Nat) : Int)) (Ending.returned (.bool false) = .returned (.bool true) ∧ Mod [] W w35) (trovelaw8_LzCuts.j4 s (c : Int) t (k : Int) (fun v w' => Ending.returned v = .returned (.bool true) ∧ Mod [] W w') w35) := by
    intro w h
    refine lz_Size.c (s := t) (L := L) h (by omega) fun w h => ⟨_, rfl, ?_⟩
    rw [es2]
    refine br_no (by simp; omega) ?_
    unfold trovelaw8_LzCuts.j4
    refine h.new fun nb w h => ?_
    have h : St [] W w (blkA nb [] :: [rdA 1 s1 (u8s (xs.take k)), rdA 3 t (tks L)]) := h
    have h := h.ownB3 (n := 0) rfl
    refine bd_i (n := c) rfl (by omega) (lt_i ?_)
    refine St.appT (s := ⟨some ⟨nb, 0, none⟩, 0, 0⟩) (s2 := ⟨cutA t.a t.cap 0 3, c - 0, t.cap - 0⟩) (L := L.take c) (L2 := []) h (by simp; omega) fun a1 w ha1 h => ⟨rfl, ?_⟩
    rw [List.nil_append] at h
    refine h.pushT (s := a1) (t := (7, 0, 0)) (by omega) fun a2 w ha2 h => ?_
    have hal : (L.take c ++ [(7, 0, 0)] : List Tk).length = (L.take c).length + 1 := by simp
    refine trovelaw8_of.c (s := a2) h (by omega) fun o w ho h => ⟨o, rfl, ?_⟩
    refine lt_as (wrap_i64 (by omega) (by omega)) ?_
    have hex2 : tkExpand (L.take c ++ [(7, 0, 0)]) (((s.len : Nat) : Int) + 1) = (xs.take k ++ [7], 0) := by
      have h5 := hk1.chk [(7, 0, 0)]
      have h6 := hk1.all (most := ((s.len : Nat) : Int) + 1) (by omega) (by omega) [(7, 0, 0)]
      rw [List.take_zero] at h6
      have hkl2 : (xs.take k).length = k := by rw [List.length_take]; omega
      unfold tkExpand
      rw [h5, h6, if_neg (by rw [tkChk, if_neg (by unfold tkBad; simp), tkChk]; simp), if_neg (by omega)]
      rw [tkAll, show tkN (7, 0, 0) = 1 from rfl, if_neg (by omega)]
      rfl
    refine troveref8_Expand.c (s := o) h (by omega) (by omega) (by omega) fun s5 w h7 h => ⟨s5, _, rfl, ?_⟩
    rw [hex2] at h h7 ⊢
    have hkl2 : (xs.take k).length = k := by rw [List.length_take]; omega
    have h7 : s5.len = k + 1 := by simp only [List.length_append, List.length_singleton] at h7; omega
    refine br_is rfl ?_
    refine lt_as (wrap_i64 (by omega) (by omega)) ?_
    refine br_is (by simp [h7]) ?_
    refine h.lx (s := s5) k rfl (by simp only [List.length_append, List.length_singleton]; omega) ?_
    refine ⟨?_, h.mod⟩
    rw [List.getD, List.getElem?_append_right (by omega), hkl2, Nat.sub_self]
    rfl
  refine ⟨?_, ?_⟩
  · refine h.bt (s := s1) hbk ?_
    refine h.bt (s := ⟨cutA s.a s.cap 0 1, k - 0, s.cap - 0⟩) hbk ?_
    exact br_no (by simp) (fin w h)
  · refine h.bt (s := ⟨cutA s.a s.cap 0 1, k - 0, s.cap - 0⟩) hbk ?_
    refine h.bt (s := s1) hbk ?_
    exact br_no (by simp) (fin w h)

end Go.Proofs.Ytkajimndclhgaaa
