/- Numbers of sevens: the program's texts. Own work. -/
import Derived.Test.YtkajimndclhgaaaBinB
import Derived.Test.YtkajimndclhgaaaBinM
namespace Go.Proofs.Ytkajimndclhgaaa
open Go Go.Proofs
set_option linter.unusedVariables false
set_option linter.unusedSimpArgs false
attribute [local irreducible] apK cpK mkK

theorem and127 {k : IntKind} (hk : 7 < k.bits) (x : Int) : andV k x 127 = x % 128 := by
  have h := andV_mod k x hk
  rw [show (2 : Int) ^ 7 - 1 = 127 by decide, show (2 : Int) ^ 7 = 128 by decide] at h
  exact h
theorem or128 {x : Int} (h : 0 ≤ x ∧ x < 128) : orV .i64 x 128 = x + 128 := by
  obtain ⟨n, rfl⟩ : ∃ n : Nat, x = n := ⟨x.toNat, by omega⟩
  have e := orV_add .i64 (a := n) (b := 1) (t := 7) (by omega) (by show n + 1 * 2 ^ 7 < 2 ^ 63; omega)
  rw [show ((1 : Nat) : Int) * 2 ^ 7 = 128 by decide] at e
  exact e
theorem shr7 (n : Nat) : shrV .i64 (n : Int) 7 = ((n / 128 : Nat) : Int) := by
  have h := shrV_nat .i64 (n : Int) (t := 7) (by decide)
  rw [show (2 : Int) ^ 7 = 128 by decide] at h
  rw [Int.natCast_ediv]
  exact h

section
variable {F0 : List Nat} {w0 w : World} {ps rest : List As} {xs : List Int}

theorem slices_Clone_byte.d {s : Sl} {K : Ending → World → Prop} (h : St F0 w0 w ps) [Rdb F0 w0 s ps 1 (u8s xs)] (hlen : xs.length ≤ 35184372088832)
    (hk : ∀ s' w', St F0 w0 w' (ownA 1 s' (u8s xs) :: ps) → K (.returned (.slice s'.a s'.len s'.cap)) w') : Calls Try.prog 124 ⟨[.slice s.a s.len s.cap]⟩ w K :=
  slices_Clone_byte.c h (h.rdb s) hlen hk

/-- a row of one's own, cut to its length -/
theorem slices_Clip_byte.d {s : Sl} {ys : List Int} {K : Ending → World → Prop} (h : St F0 w0 w (ownA 1 s (u8s ys) :: ps))
    (hk : ∀ s' : Sl, s'.len = ys.length → s'.cap = s'.len → St F0 w0 w (rdA 1 s' (u8s ys) :: ps) → K (.returned (.slice s'.a s'.len s'.cap)) w) : Calls Try.prog 125 ⟨[.slice s.a s.len s.cap]⟩ w K := by
  have hl := h.len
  rw [ivs_length] at hl
  exact slices_Clip_byte.c h.ro (h.cap (by decide)) fun s' h1 h2 h => hk s' (by omega) (by omega) h

theorem bin_PutSize.c {s : Sl} {n : Nat} {K : Ending → World → Prop} (h : St F0 w0 w ps) [Rdb F0 w0 s ps 1 (u8s xs)] (hL : xs.length ≤ 1000000000) (hn : n < 9223372036854775808)
    (hk : ∀ s' w', s'.len = xs.length + (sizeEnc n).length → s'.cap = s'.len → St F0 w0 w' (rdA 1 s' (u8s (xs ++ sizeEnc n)) :: ps) → K (.returned (.slice s'.a s'.len s'.cap)) w') :
    Calls Try.prog 90 ⟨[.slice s.a s.len s.cap, .int .i64 (n : Int)]⟩ w K := by
  refine ret_k (bin_PutSize.ok _ _ _ _ ?_)
  unfold bin_PutSize bin_PutSize.j1
  refine slices_Clone_byte.d h (by omega) fun s1 w h => ⟨s1, rfl, ?_⟩
  refine br_d (fun g => by omega) fun _ => ?_
  unfold bin_PutSize.j2
  have h9 := sizeEnc_le 8 n (by rw [show (128 : Nat) ^ (8 + 1) = 9223372036854775808 by decide]; exact hn)
  refine loop2 (fun (a : Nat × List Int) (v : Int) (o : Sl) w' => v = a.1 ∧ a.1 ≤ n ∧ a.2 ++ sizeEnc a.1 = sizeEnc n ∧ St F0 w0 w' (ownA 1 o (u8s (xs ++ a.2)) :: ps)) (fun a => a.1) (n, []) ⟨rfl, by omega, rfl, by simpa using h⟩ ?_
  clear h
  rintro ⟨v, p⟩ v' o w I μ ⟨rfl, hv, hp, h⟩ hin
  simp only at hv hp h hin ⊢
  have hpl : p.length ≤ 9 := by have := congrArg List.length hp; rw [List.length_append] at this; omega
  unfold bin_PutSize.b1
  refine br_d (fun g => ?_) (fun g => ?_)
  · refine lt_as (and127 (by decide) _) ?_
    refine lt_as (or128 (by omega)) ?_
    refine lt_as (show IntKind.u8.wrap ((v : Int) % 128 + 128) = ((v % 128 + 128 : Nat) : Int) by rw [wrap_u8]; omega) ?_
    refine h.pushI (by rw [List.length_append]; omega) fun o2 w h => ?_
    refine ⟨by decide, lt_as (shr7 v) ?_⟩
    refine ⟨trivial, hin (v / 128, p ++ [((v % 128 + 128 : Nat) : Int)]) _ _ _ ⟨rfl, by simp only; omega, ?_, ?_⟩ (by simp only; omega)⟩
    · rw [← hp, List.append_assoc]
      congr 1
      conv => rhs; rw [sizeEnc, dif_neg (by omega)]
      rfl
    · rw [List.append_assoc] at h
      exact h
  · have e : sizeEnc v = [(v : Int)] := by rw [sizeEnc, dif_pos (by omega)]
    unfold bin_PutSize.j3
    refine lt_as (show IntKind.u8.wrap (v : Int) = v by rw [wrap_u8]; omega) ?_
    refine h.pushI (by rw [List.length_append]; omega) fun o2 w h => ?_
    rw [List.append_assoc, ← e, hp] at h
    refine slices_Clip_byte.d h fun s2 h1 h2 h => ⟨s2, rfl, ?_⟩
    exact hk s2 w (by rw [h1, List.length_append]) h2 h

theorem bin_Size.c {s : Sl} {K : Ending → World → Prop} (h : St F0 w0 w ps) [Rdb F0 w0 s ps 1 (u8s xs)] (hx : allB xs) (hL : xs.length ≤ 1000000000)
    (hk : ∀ w', St F0 w0 w' ps → K (.returned (.tuple ⟨[.int .i64 (sizeDec 0 0 xs).1, .int .i64 (sizeDec 0 0 xs).2.1, .int .i64 (sizeDec 0 0 xs).2.2]⟩)) w') :
    Calls Try.prog 92 ⟨[.slice s.a s.len s.cap]⟩ w K := by
  refine ret_k (bin_Size.ok _ _ _ ?_)
  unfold bin_Size bin_Size.j1 bin_Size.j3
  have hl := (h.rdb s).1
  rw [ivs_length] at hl
  refine loop2 (fun (i : Nat) (v i' : Int) w' => i' = i ∧ i ≤ xs.length ∧ i ≤ 9 ∧ 0 ≤ v ∧ v < 2 ^ (7 * i) ∧ sizeDec i v (xs.drop i) = sizeDec 0 0 xs ∧ St F0 w0 w' ps) (fun i => xs.length - i) 0 ⟨rfl, by omega, by omega, by omega, by decide, rfl, h⟩ ?_
  clear h
  rintro i v i' w I μ ⟨rfl, hi, hi9, hv0, hv1, hd, h⟩ hin
  unfold bin_Size.b1
  refine br_d (fun g => ?_) (fun g => ?_)
  · have hix : i < xs.length := by omega
    have hc := allB_getD hx hix
    have ed : xs.drop i = xs.getD i 0 :: xs.drop (i + 1) := by
      rw [List.drop_eq_getElem_cons hix]
      simp [List.getD, List.getElem?_eq_getElem hix]
    rw [ed] at hd
    refine h.lx i rfl hix ?_
    generalize xs.getD i 0 = c at hc hd ⊢
    rw [sizeDec] at hd
    refine br_b (fun g2 => ?_) (fun g2 => ?_)
    · have : i = 9 := by have : (i : Int) = 9 := by simpa using g2
                         omega
      rw [if_pos this] at hd
      rw [← hd] at hk
      exact hk w h
    · have : i ≠ 9 := by have : ¬ (i : Int) = 9 := by simpa using g2
                         omega
      rw [if_neg this] at hd
      have hP : (2 : Int) ^ (7 * i) ≤ 2 ^ 56 := by exact_mod_cast Nat.pow_le_pow_right (by decide) (show 7 * i ≤ 56 by omega)
      rw [show (2 : Int) ^ 56 = 72057594037927936 by decide] at hP
      have hP0 : (0 : Int) < 2 ^ (7 * i) := Int.pow_pos (by decide)
      have hP1 : (2 : Int) ^ (7 * (i + 1)) = 128 * 2 ^ (7 * i) := by rw [show 7 * (i + 1) = 7 + 7 * i by omega, Int.pow_add]; rfl
      obtain ⟨m, hm⟩ : ∃ m : Nat, c % 128 = m := ⟨(c % 128).toNat, by omega⟩
      obtain ⟨u, rfl⟩ : ∃ u : Nat, v = u := ⟨v.toNat, by omega⟩
      have hmP : (m : Int) * 2 ^ (7 * i) ≤ 127 * 2 ^ (7 * i) := Int.mul_le_mul_of_nonneg_right (by omega) (by omega)
      have hmP0 : 0 ≤ (m : Int) * 2 ^ (7 * i) := Int.mul_nonneg (by omega) (by omega)
      refine lt_as (and127 (by decide) _) ?_
      refine lt_as (wrap_i64 (by omega) (by omega)) ?_
      refine lt_as (show IntKind.i64.wrap (7 * (i : Int)) = ((7 * i : Nat) : Int) by rw [wrap_i64 (by omega) (by omega)]; omega) ?_
      refine ⟨by omega, ?_⟩
      rw [hm]
      rw [hm] at hd
      refine lt_as (shlV_nat .i64 (t := 7 * i) (show 7 * i ≤ 64 by omega) (by omega) (by rw [show (2 : Int) ^ (IntKind.i64.bits - 1) = 9223372036854775808 by decide]; omega)) ?_
      refine lt_as (orV_add .i64 (t := 7 * i) (by exact_mod_cast hv1) (by
        have : ((u + m * 2 ^ (7 * i) : Nat) : Int) < ((2 ^ (IntKind.i64.bits - 1) : Nat) : Int) := by
          rw [show ((2 ^ (IntKind.i64.bits - 1) : Nat) : Int) = 9223372036854775808 by decide]
          simp only [Int.natCast_add, Int.natCast_mul, Int.natCast_pow]
          have : ((2 : Nat) : Int) = 2 := rfl
          rw [this]
          omega
        exact_mod_cast this)) ?_
      refine br_d (fun g3 => ?_) (fun g3 => ?_)
      · rw [if_pos g3] at hd
        refine lt_as (wrap_i64 (by omega) (by omega)) ?_
        rw [← hd] at hk
        exact hk w h
      · rw [if_neg g3] at hd
        refine lt_as (wrap_i64 (by omega) (by omega)) ?_
        exact ⟨⟨rfl, rfl, rfl⟩, hin (i + 1) _ _ _ ⟨by omega, by omega, by omega, by omega, by omega, hd, h⟩ (by omega)⟩
  · have : i = xs.length := by omega
    subst this
    rw [List.drop_length, sizeDec] at hd
    unfold bin_Size.j2
    rw [← hd] at hk
    refine br_d (fun g => ?_) (fun g => ?_)
    · rw [if_pos (by omega)] at hk
      exact hk w h
    · rw [if_neg (by omega)] at hk
      exact hk w h

theorem bin_Offset.c {s : Sl} {K : Ending → World → Prop} (h : St F0 w0 w ps) [Rdb F0 w0 s ps 1 (u8s xs)] (hx : allB xs) (hL : xs.length ≤ 1000000000)
    (hk : ∀ w', St F0 w0 w' ps → K (.returned (.tuple ⟨[.int .i64 (ofsDec 0 0 xs).1, .int .i64 (ofsDec 0 0 xs).2.1, .int .i64 (ofsDec 0 0 xs).2.2]⟩)) w') :
    Calls Try.prog 93 ⟨[.slice s.a s.len s.cap]⟩ w K := by
  refine ret_k (bin_Offset.ok _ _ _ ?_)
  unfold bin_Offset bin_Offset.j1 bin_Offset.j3
  have hl := (h.rdb s).1
  rw [ivs_length] at hl
  refine loop2 (fun (i : Nat) (v i' : Int) w' => i' = i ∧ i ≤ xs.length ∧ i ≤ 8 ∧ 0 ≤ v ∧ (i = 0 → v = 0) ∧ (0 < i → v * 128 + 384 ≤ 130 * 128 ^ i) ∧ ofsDec i v (xs.drop i) = ofsDec 0 0 xs ∧ St F0 w0 w' ps) (fun i => xs.length - i) 0 ⟨rfl, by omega, by omega, by omega, fun _ => rfl, fun g => by omega, rfl, h⟩ ?_
  clear h
  rintro i v i' w I μ ⟨rfl, hi, hi9, hv0, hz, hv1, hd, h⟩ hin
  unfold bin_Offset.b1
  refine br_d (fun g => ?_) (fun g => ?_)
  · have hix : i < xs.length := by omega
    have hc := allB_getD hx hix
    have ed : xs.drop i = xs.getD i 0 :: xs.drop (i + 1) := by
      rw [List.drop_eq_getElem_cons hix]
      simp [List.getD, List.getElem?_eq_getElem hix]
    unfold bin_Offset.j4
    refine h.lx i rfl hix ?_
    rw [ed] at hd
    generalize xs.getD i 0 = c at hc hd ⊢
    rw [ofsDec] at hd
    unfold bin_Offset.j6
    refine br_b (fun g2 => ?_) (fun g2 => ?_)
    · have : i = 8 := by have : (i : Int) = 8 := by simpa using g2
                         omega
      rw [if_pos this] at hd
      rw [← hd] at hk
      exact hk w h
    · have : i ≠ 8 := by have : ¬ (i : Int) = 8 := by simpa using g2
                         omega
      rw [if_neg this] at hd
      have hP : (128 : Int) ^ i ≤ 128 ^ 7 := by exact_mod_cast Nat.pow_le_pow_right (by decide) (show i ≤ 7 by omega)
      rw [show (128 : Int) ^ 7 = 562949953421312 by decide] at hP
      have hP0 : (0 : Int) < 128 ^ i := Int.pow_pos (by decide)
      have hP1 : (128 : Int) ^ (i + 1) = 128 * 128 ^ i := by rw [Int.pow_succ, Int.mul_comm]
      have end7 : ∀ u : Int, 0 ≤ u → u ≤ 1000000000000000 → (if 0 < i then (v + 1) * 128 else v) = u * 128 → (0 < i → u = v + 1) → bin_Offset.j7 s (u * 128) (i : Int) c s ((s.len : Nat) : Int) (i : Int) (fun v w' => K (.returned v) w') (fun b_0' t7' t8' v_2' t9' w' => (b_0' = s ∧ t7' = s ∧ t8' = ((s.len : Nat) : Int)) ∧ I v_2' t9' w' ∧ μ v_2' t9' w' < μ v i w) w := by
        intro u hu0 hu1 hu2 hu3
        rw [hu2] at hd
        obtain ⟨u, rfl⟩ : ∃ t : Nat, u = t := ⟨u.toNat, by omega⟩
        obtain ⟨m, hm⟩ : ∃ m : Nat, c % 128 = m := ⟨(c % 128).toNat, by omega⟩
        rw [hm] at hd
        unfold bin_Offset.j7
        refine lt_as (and127 (by decide) _) ?_
        refine lt_as (wrap_i64 (by omega) (by omega)) ?_
        rw [hm]
        have eo := orV_add' .i64 (a := m) (b := u) (t := 7) (by omega) (by show m + u * 2 ^ 7 < 2 ^ 63; omega)
        rw [show (2 : Int) ^ 7 = 128 by decide] at eo
        refine lt_as eo ?_
        rw [Int.add_comm (m : Int)]
        refine br_d (fun g3 => ?_) (fun g3 => ?_)
        · rw [if_pos g3] at hd
          refine lt_as (wrap_i64 (by omega) (by omega)) ?_
          rw [← hd] at hk
          exact hk w h
        · rw [if_neg g3] at hd
          unfold bin_Offset.j5
          refine lt_as (wrap_i64 (by omega) (by omega)) ?_
          refine ⟨⟨rfl, rfl, rfl⟩, hin (i + 1) _ _ _ ⟨by omega, by omega, by omega, by omega, by omega, fun _ => ?_, hd, h⟩ (by omega)⟩
          by_cases h0 : 0 < i
          · have h5 := hv1 h0
            have h6 := hu3 h0
            omega
          · have h1 : i = 0 := by omega
            have h2 := hz h1
            rw [if_neg h0] at hu2
            subst h1
            rw [hP1]
            simp only [Int.pow_zero] at hP ⊢
            omega
      refine br_d (fun g3 => ?_) (fun g3 => ?_)
      · have h0 : 0 < i := by omega
        have h5 := hv1 h0
        refine lt_as (wrap_i64 (by omega) (by omega)) ?_
        refine ⟨by decide, ?_⟩
        have es := shlV_nat .i64 (x := v + 1) (t := 7) (by decide) (by omega) (by rw [show (2 : Int) ^ (IntKind.i64.bits - 1) = 9223372036854775808 by decide, show (2 : Int) ^ 7 = 128 by decide]; omega)
        rw [show (2 : Int) ^ 7 = 128 by decide] at es
        refine lt_as es ?_
        exact end7 (v + 1) (by omega) (by omega) (by rw [if_pos h0]) (fun _ => rfl)
      · have h0 : i = 0 := by omega
        have := end7 0 (by omega) (by omega) (by rw [if_neg (by omega), hz h0]; rfl) (fun g => by omega)
        rw [show (0 : Int) * 128 = v by rw [hz h0]; rfl] at this
        exact this
  · have : i = xs.length := by omega
    subst this
    rw [List.drop_length, ofsDec] at hd
    unfold bin_Offset.j2
    rw [← hd] at hk
    refine br_d (fun g => ?_) (fun g => ?_)
    · rw [if_pos (by omega)] at hk
      exact hk w h
    · rw [if_neg (by omega)] at hk
      exact hk w h

/-! ### a row turned round -/

/-- the first i and the last i are changed -/
def rvL (xs : List Int) (i : Nat) : List Int := (List.range xs.length).map fun j => if j < i ∨ xs.length - i ≤ j then xs.getD (xs.length - 1 - j) 0 else xs.getD j 0
theorem rvL_length (xs : List Int) (i : Nat) : (rvL xs i).length = xs.length := by simp [rvL]
theorem rvL_getD (xs : List Int) (i : Nat) {j : Nat} (h : j < xs.length) : (rvL xs i).getD j 0 = if j < i ∨ xs.length - i ≤ j then xs.getD (xs.length - 1 - j) 0 else xs.getD j 0 := by
  unfold rvL
  rw [List.getD_eq_getElem?_getD, List.getElem?_map, List.getElem?_range h]
  rfl
theorem ext_getD {l m : List Int} (hl : l.length = m.length) (h : ∀ j, j < l.length → l.getD j 0 = m.getD j 0) : l = m := by
  apply List.ext_getElem hl
  intro j h1 h2
  have := h j h1
  simpa [List.getD, List.getElem?_eq_getElem h1, List.getElem?_eq_getElem h2] using this
theorem getD_set {l : List Int} {i j : Nat} {v : Int} (h : i < l.length) : (l.set i v).getD j 0 = if i = j then v else l.getD j 0 := by
  rw [List.getD_eq_getElem?_getD, List.getElem?_set]
  split
  · rename_i e; subst e; simp [h]
  · rw [List.getD_eq_getElem?_getD]
theorem rvL_zero (xs : List Int) : rvL xs 0 = xs := ext_getD (rvL_length xs 0) fun j h => by
  rw [rvL_length] at h
  rw [rvL_getD xs 0 h, if_neg (by omega)]
theorem getD_reverse {xs : List Int} {j : Nat} (h : j < xs.length) : xs.reverse.getD j 0 = xs.getD (xs.length - 1 - j) 0 := by
  rw [List.getD_eq_getElem?_getD, List.getElem?_reverse h, List.getD_eq_getElem?_getD]
theorem rvL_end {xs : List Int} {i : Nat} (h : xs.length - 1 ≤ 2 * i) (h2 : 2 * i ≤ xs.length + 1) : rvL xs i = xs.reverse := ext_getD (by rw [rvL_length, List.length_reverse]) fun j hj => by
  rw [rvL_length] at hj
  rw [rvL_getD xs i hj, getD_reverse hj]
  split
  · rfl
  · congr 1; omega
theorem rvL_step {xs : List Int} {i : Nat} (h : i < xs.length - 1 - i) : ((rvL xs i).set i ((rvL xs i).getD (xs.length - 1 - i) 0)).set (xs.length - 1 - i) ((rvL xs i).getD i 0) = rvL xs (i + 1) := ext_getD (by simp [rvL]) fun j hj => by
  simp only [List.length_set, rvL_length] at hj
  have e1 : (rvL xs i).getD (xs.length - 1 - i) 0 = xs.getD (xs.length - 1 - i) 0 := by rw [rvL_getD xs i (by omega), if_neg (by omega)]
  have e2 : (rvL xs i).getD i 0 = xs.getD i 0 := by rw [rvL_getD xs i (by omega), if_neg (by omega)]
  rw [getD_set (by rw [List.length_set, rvL_length]; omega), getD_set (by rw [rvL_length]; omega), e1, e2, rvL_getD xs i hj, rvL_getD xs (i + 1) hj]
  by_cases h1 : xs.length - 1 - i = j
  · rw [if_pos h1, if_pos (by omega)]
    congr 1; omega
  · rw [if_neg h1]
    by_cases h2 : i = j
    · rw [if_pos h2, if_pos (by omega)]
      congr 1; omega
    · rw [if_neg h2]
      by_cases h3 : j < i ∨ xs.length - i ≤ j
      · rw [if_pos h3, if_pos (by omega)]
      · rw [if_neg h3, if_neg (by omega)]

theorem slices_Reverse_byte.c {s : Sl} {K : Ending → World → Prop} (h : St F0 w0 w ps) [PkO s ps 1 (u8s xs) rest] (hL : xs.length ≤ 1000000000000)
    (hk : ∀ w', St F0 w0 w' (ownA 1 s (u8s xs.reverse) :: rest) → K (.returned (.tuple ⟨[]⟩)) w') : Calls Try.prog 135 ⟨[.slice s.a s.len s.cap]⟩ w K := by
  refine ret_k (slices_Reverse_byte.ok _ _ _ ?_)
  unfold slices_Reverse_byte
  have h := h.toO s
  have hl := h.len
  rw [ivs_length] at hl
  refine lt_as (wrap_i64 (by omega) (by omega)) ?_
  unfold slices_Reverse_byte.j1
  refine loop2 (fun (i : Nat) (i' j' : Int) w' => i' = i ∧ j' = (xs.length : Int) - 1 - i ∧ 2 * i ≤ xs.length + 1 ∧ St F0 w0 w' (ownA 1 s (u8s (rvL xs i)) :: rest)) (fun i => xs.length - i) 0 ⟨rfl, by omega, by omega, by rw [rvL_zero]; exact h⟩ ?_
  clear h
  rintro i i' j' w I μ ⟨rfl, rfl, hi, h⟩ hin
  unfold slices_Reverse_byte.b1
  refine br_d (fun g => ?_) (fun g => ?_)
  · have hlt : i < xs.length - 1 - i := by omega
    refine h.drewK fun w h => ?_
    refine h.lx (xs.length - 1 - i) (by omega) (by rw [rvL_length]; omega) ?_
    refine h.lx i rfl (by rw [rvL_length]; omega) ?_
    refine h.sx i rfl (by rw [rvL_length]; omega) fun w h => ?_
    refine h.sx (xs.length - 1 - i) (by omega) (by rw [List.length_set, rvL_length]; omega) fun w h => ?_
    refine lt_as (wrap_i64 (by omega) (by omega)) ?_
    refine lt_as (wrap_i64 (by omega) (by omega)) ?_
    rw [rvL_step hlt] at h
    exact ⟨rfl, hin (i + 1) _ _ _ ⟨by omega, by omega, by omega, h⟩ (by omega)⟩
  · rw [rvL_end (by omega) hi] at h
    exact hk w h

theorem bin_PutOffset.c {s : Sl} {n : Nat} {K : Ending → World → Prop} (h : St F0 w0 w ps) [Rdb F0 w0 s ps 1 (u8s xs)] (hL : xs.length ≤ 1000000000) (hn : n < 9223372036854775808)
    (hk : ∀ s' w', s'.len = xs.length + (ofsEnc n).length → s'.cap = s'.len → St F0 w0 w' (rdA 1 s' (u8s (xs ++ ofsEnc n)) :: ps) → K (.returned (.slice s'.a s'.len s'.cap)) w') :
    Calls Try.prog 89 ⟨[.slice s.a s.len s.cap, .int .i64 (n : Int)]⟩ w K := by
  refine ret_k (bin_PutOffset.ok _ _ _ _ ?_)
  unfold bin_PutOffset bin_PutOffset.j1
  refine slices_Clone_byte.d h (by omega) fun s1 w h => ⟨s1, rfl, ?_⟩
  refine br_d (fun g => by omega) fun _ => ?_
  refine lt_as (and127 (by decide) _) ?_
  refine lt_as (show IntKind.u8.wrap ((n : Int) % 128) = ((n % 128 : Nat) : Int) by rw [wrap_u8]; omega) ?_
  refine h.new fun nb w h => ?_
  have h := h.ownB (n := 1) rfl
  unfold bin_PutOffset.j2 bin_PutOffset.j4
  refine ⟨by decide, lt_as (shr7 n) ?_⟩
  have h9 := ofsHi_le 9 (n / 128) (by rw [show (128 : Nat) ^ 9 = 9223372036854775808 by decide]; omega)
  refine loop2 (fun (a : Nat × List Int) (v : Int) (o : Sl) w' => v = a.1 ∧ a.1 ≤ n ∧ ofsHi a.1 ++ a.2.reverse = ofsHi (n / 128) ∧ St F0 w0 w' (ownA 1 o (u8s ([((n % 128 : Nat) : Int)] ++ a.2)) :: ownA 1 s1 (u8s xs) :: ps)) (fun a => a.1) (n / 128, []) ⟨rfl, by simp only; omega, by simp, by simpa using h⟩ ?_
  clear h
  rintro ⟨v, p⟩ v' o w I μ ⟨rfl, hv, hp, h⟩ hin
  simp only at hv hp h hin ⊢
  have hpl : p.length ≤ 9 := by have := congrArg List.length hp; rw [List.length_append, List.length_reverse] at this; omega
  unfold bin_PutOffset.b1
  refine br_d (fun g => ?_) (fun g => ?_)
  · refine lt_as (show IntKind.i64.wrap ((v : Int) - 1) = ((v - 1 : Nat) : Int) by rw [wrap_i64 (by omega) (by omega)]; omega) ?_
    refine lt_as (and127 (by decide) _) ?_
    refine lt_as (or128 (by omega)) ?_
    refine lt_as (show IntKind.u8.wrap (((v - 1 : Nat) : Int) % 128 + 128) = (((v - 1) % 128 + 128 : Nat) : Int) by rw [wrap_u8]; omega) ?_
    refine h.pushI (by rw [List.length_append, List.length_singleton]; omega) fun o2 w h => ?_
    refine ⟨by decide, lt_as (shr7 (v - 1)) ?_⟩
    refine ⟨rfl, hin ((v - 1) / 128, p ++ [(((v - 1) % 128 + 128 : Nat) : Int)]) _ _ _ ⟨rfl, by simp only; omega, ?_, ?_⟩ (by simp only; omega)⟩
    · rw [← hp, List.reverse_append]
      conv => rhs; rw [ofsHi, dif_neg (by omega), List.append_assoc]
      rfl
    · rw [List.append_assoc] at h
      exact h
  · have hv0 : v = 0 := by omega
    subst hv0
    have e0 : ofsHi 0 = [] := by rw [ofsHi, dif_pos rfl]
    rw [e0, List.nil_append] at hp
    unfold bin_PutOffset.j3
    refine slices_Reverse_byte.c h (by rw [List.length_append, List.length_singleton]; omega) fun w h => ⟨rfl, ?_⟩
    have e : ([((n % 128 : Nat) : Int)] ++ p).reverse = ofsEnc n := by rw [List.reverse_append, hp]; rfl
    rw [e] at h
    have hl2 : (ofsEnc n).length ≤ 10 := by rw [ofsEnc, List.length_append]; simp; omega
    refine h.appI (s := s1) (s2 := o) (by omega) fun s2 w h => ?_
    refine slices_Clip_byte.d h fun s3 h1 h2 h => ⟨s3, rfl, ?_⟩
    exact hk s3 w (by rw [h1, List.length_append]) h2 (h.tail fun _ _ _ h => h.drop)

end

end Go.Proofs.Ytkajimndclhgaaa
