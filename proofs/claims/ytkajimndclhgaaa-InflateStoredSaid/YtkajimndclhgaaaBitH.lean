/- What is put comes again: what the statement's text answers. Own work. -/
import Derived.Test.YtkajimndclhgaaaBitG
namespace Go.Proofs.Ytkajimndclhgaaa
open Go Go.Proofs
set_option linter.unusedVariables false
set_option linter.unusedSimpArgs false
attribute [local irreducible] apK cpK mkK

/-! ### 1. the document's Turn -/

theorem val_turn_succ (v : Int) (i : Nat) : val (bitsOf v (i + 1)).reverse = (bt v i).toNat + 2 * val (bitsOf v i).reverse := by
  rw [bitsOf_succ, List.reverse_append]
  rfl

theorem troveref2_Turn.c {v n : Int} {w : World} {K : Ending → World → Prop} (hk : K (.returned (.int .i64 (turn v n))) w) : Calls Try.prog 40 ⟨[.int .i64 v, .int .i64 n]⟩ w K := by
  refine ret_k (troveref2_Turn.ok _ _ _ _ ?_)
  unfold troveref2_Turn troveref2_Turn.j1
  refine br_d (fun h1 => ?_) (fun h1 => ?_)
  · rwa [turn, if_neg (by omega)] at hk
  refine br_d (fun h2 => ?_) (fun h2 => ?_)
  · rwa [turn, if_neg (by omega)] at hk
  rw [turn, if_pos (by omega)] at hk
  obtain ⟨t, rfl⟩ : ∃ t : Nat, n = t := ⟨n.toNat, by omega⟩
  rw [Int.toNat_natCast, turnN_eq] at hk
  unfold troveref2_Turn.j2 troveref2_Turn.j4
  refine loop2 (fun (i : Nat) (x i' : Int) w' => i' = i ∧ i ≤ t ∧ x = (val (bitsOf v i).reverse : Nat) ∧ w' = w) (fun i => t - i) 0 ⟨rfl, by omega, rfl, rfl⟩ ?_
  rintro i x i' w' I μ ⟨rfl, hi, rfl, rfl⟩ hin
  unfold troveref2_Turn.b1
  have hx := val_lt (bitsOf v i).reverse
  rw [List.length_reverse, bitsOf_length] at hx
  refine br_d (fun h3 => ?_) (fun h3 => ?_)
  · refine ⟨by omega, ?_⟩
    refine lt_i ?_
    refine lt_as (show IntKind.u64.wrap (i : Int) = i by rw [wrap_u64]; omega) ?_
    refine ⟨by omega, ?_⟩
    refine lt_as (shrV_nat .i64 _ (show i ≤ 64 by omega)) ?_
    refine lt_i ?_
    have hs := turn_step (v := v / 2 ^ i) hx (by omega)
    refine lt_as hs ?_
    refine lt_as (wrap_i64 (by omega) (by omega)) ?_
    refine ⟨⟨rfl, rfl⟩, hin (i + 1) _ _ _ ⟨by simp, by omega, ?_, rfl⟩ (by omega)⟩
    rw [val_turn_succ]
    have := bt_toNat v i
    omega
  · have : i = t := by omega
    subst this
    exact hk

/-! ### 2. what is read is what was put -/

theorem read_mid {a b c : List Bool} : val (a ++ (b ++ c)) / 2 ^ a.length % 2 ^ b.length = val b := by
  rw [← val_drop, List.drop_left, ← val_take, List.take_left]

theorem turn_turn {v : Int} {t : Nat} (ht : t ≤ 24) : turn (val (bitsOf v t).reverse : Nat) t = (val (bitsOf v t) : Nat) ∧ turn (turn (val (bitsOf v t) : Nat) t) t = (val (bitsOf v t) : Nat) := by
  have e : ∀ l : List Bool, l.length = t → turn (val l : Nat) t = (val l.reverse : Nat) := by
    intro l hl
    unfold turn
    rw [if_pos (by omega), Int.toNat_natCast, turnN_eq, ← hl, bitsOf_val]
  have h1 : (bitsOf v t).length = t := bitsOf_length v t
  refine ⟨?_, ?_⟩
  · rw [e _ (by rw [List.length_reverse, h1]), List.reverse_reverse]
  · rw [e _ h1, e _ (by rw [List.length_reverse, h1]), List.reverse_reverse]

def both (a : Int × Int × Int) : List Bool := pb a.2.1 a.2.2 ++ (pb a.2.1 a.2.2).reverse

theorem both_length (a : Int × Int × Int) : (both a).length ≤ 48 := by
  unfold both
  rw [List.length_append, List.length_reverse]
  have := pb_length a.2.1 a.2.2
  omega

theorem flat_length (xs : List (Int × Int × Int)) : (xs.flatMap both).length ≤ 48 * xs.length := by
  induction xs with
  | nil => simp
  | cons a xs ih =>
    rw [List.flatMap_cons, List.length_append, List.length_cons]
    have := both_length a
    omega

theorem flat_cut (xs : List (Int × Int × Int)) (i : Nat) (h : i < xs.length) : xs.flatMap both = (xs.take i).flatMap both ++ (both xs[i] ++ (xs.drop (i + 1)).flatMap both) := by
  conv => lhs; rw [← List.take_append_drop i xs, List.drop_eq_getElem_cons h]
  rw [List.flatMap_append, List.flatMap_cons]

theorem flat_succ (xs : List (Int × Int × Int)) (i : Nat) (h : i < xs.length) : (xs.take (i + 1)).flatMap both = (xs.take i).flatMap both ++ both xs[i] := by
  rw [List.take_succ_eq_append_getElem h, List.flatMap_append]
  simp

theorem trovelaw2_BitsBack.law (s0 : Sl) (xs : List (Int × Int × Int)) (w : World) (hr0 : Rd w 3 s0 (acts xs)) (_hw : ∀ y ∈ xs, (Lit.int .i64 y.1).wf = true ∧ (Lit.int .i64 y.2.1).wf = true ∧ (Lit.int .i64 y.2.2).wf = true) :
    Calls Try.prog 3 ⟨[.slice s0.a s0.len s0.cap]⟩ w fun e w' => e = .returned (.bool true) ∧ Mod [] w w' := by
  refine ret_k (trovelaw2_BitsBack.ok _ _ _ ?_)
  unfold trovelaw2_BitsBack
  refine trovelaw2_known.c (St.start0 (w := w)) fun w1 h => ⟨_, rfl, ?_⟩
  have done : ∀ {w' ps}, St [] w w' ps → (Ending.returned (.bool true) = Ending.returned (.bool true) ∧ Mod [] w w') := fun h => ⟨rfl, h.mod⟩
  refine br_b (fun h1 => by cases h1) fun _ => ?_
  unfold trovelaw2_BitsBack.j1
  refine br_d (fun _ => done h) fun g1 => ?_
  have hl0 := hr0.1
  rw [acts_length] at hl0
  have hlen := acts_length xs
  have rd0 : ∀ {w' ps}, St [] w w' ps → Rd w' 3 s0 (acts xs) := fun h => hr0.keep h.mod (by simp)
  refine bits_NewWriter.c h fun wa w2 h => ⟨_, rfl, ?_⟩
  unfold trovelaw2_BitsBack.j2 trovelaw2_BitsBack.j7
  refine loop1 (fun (i : Nat) (i' : Int) w' => i' = i ∧ i ≤ xs.length ∧ St [] w w' (wrL wa ((xs.take i).flatMap both) :: [])) (fun i => xs.length - i) 0 ⟨rfl, by omega, by simpa using h⟩ ?_
  clear h
  rintro i i' w3 I μ ⟨rfl, hi, h⟩ hin
  have hfl := flat_length (xs.take i)
  rw [List.length_take] at hfl
  have ei : ((i : Int)).toNat * 3 = i * 3 := by omega
  unfold trovelaw2_BitsBack.b2
  refine br_d (fun h1 => ?_) (fun h1 => ?_)
  · have hix : i < xs.length := by omega
    obtain ⟨g0, g1', g2⟩ := acts_get xs i hix
    refine h.drewK fun w3 h => ?_
    refine (rd0 h).ix (by decide) (by omega) (by omega) fun a ha => ?_
    rw [ei, add_add]
    refine (rd0 h).ldI ha g1' ?_
    refine (rd0 h).ix (by decide) (by omega) (by omega) fun a ha => ?_
    rw [ei, add_add]
    refine (rd0 h).ldI ha g2 ?_
    refine bits_Writer_Put.cl h (by omega) fun w4 h => ⟨rfl, ?_⟩
    refine h.drewK fun w4 h => ?_
    refine (rd0 h).ix (by decide) (by omega) (by omega) fun a ha => ?_
    rw [ei, add_add]
    refine (rd0 h).ldI ha g1' ?_
    refine (rd0 h).ix (by decide) (by omega) (by omega) fun a ha => ?_
    rw [ei, add_add]
    refine (rd0 h).ldI ha g2 ?_
    have := pb_length xs[i].2.1 xs[i].2.2
    refine bits_Writer_Code.c h (by rw [List.length_append]; omega) fun w5 h => ⟨rfl, ?_⟩
    refine lt_as (wrap_i64 (by omega) (by omega)) ?_
    refine ⟨⟨rfl, rfl⟩, hin (i + 1) _ _ ⟨by simp, by omega, ?_⟩ (by omega)⟩
    rw [flat_succ xs i hix, both, ← List.append_assoc]
    exact h
  · have : i = xs.length := by omega
    subst this
    rw [List.take_length] at h
    clear hin hfl ei hi h1
    have hfl := flat_length xs
    generalize hl : xs.flatMap both = l at h hfl
    unfold trovelaw2_BitsBack.j3
    refine bits_Writer_Done.c h (by omega) fun s w4 hs hc h => ⟨s, rfl, ?_⟩
    refine bits_NewReader.c h h.rd (by omega) fun rb w5 h => ⟨_, rfl, ?_⟩
    have h : St [] w w5 (rrA rb (val l) ((l.length + 7) / 8) 0 :: []) := h.tail fun F w0 w1 h => by
      obtain ⟨m, F', hF, hg⟩ := h
      exact ⟨m, [], rfl, by intro x hx; cases hx⟩
    unfold trovelaw2_BitsBack.j4 trovelaw2_BitsBack.j6
    refine loop1 (fun (i : Nat) (i' : Int) w' => i' = i ∧ i ≤ xs.length ∧ St [] w w' (rrA rb (val l) ((l.length + 7) / 8) ((xs.take i).flatMap both).length :: [])) (fun i => xs.length - i) 0 ⟨rfl, by omega, by simpa using h⟩ ?_
    clear h
    rintro i i' w3 I μ ⟨rfl, hi, h⟩ hin
    have ei : ((i : Int)).toNat * 3 = i * 3 := by omega
    unfold trovelaw2_BitsBack.b1
    refine br_d (fun h1 => ?_) (fun h1 => ?_)
    · have hix : i < xs.length := by omega
      obtain ⟨g0, g1', g2⟩ := acts_get xs i hix
      have hcut := flat_cut xs i hix
      have hsu := flat_succ xs i hix
      rw [hl] at hcut
      generalize hA : (xs.take i).flatMap both = A at h hcut hsu
      generalize hC : (xs.drop (i + 1)).flatMap both = C at hcut
      have hw := (_hw xs[i] (List.getElem_mem hix)).2
      generalize hx : xs[i] = a at g0 g1' g2 hcut hsu hw
      obtain ⟨op, v, n⟩ := a
      simp only at g0 g1' g2 hw
      have hll : l.length = A.length + ((both (op, v, n)).length + C.length) := by rw [hcut, List.length_append, List.length_append]
      have next : ∀ w4, St [] w w4 (rrA rb (val l) ((l.length + 7) / 8) (A.length + (both (op, v, n)).length) :: []) → I ((i : Int) + 1) w4 ∧ μ ((i : Int) + 1) w4 < μ (i : Int) w3 := by
        intro w4 h
        refine hin (i + 1) _ _ ⟨by simp, by omega, ?_⟩ (by omega)
        rw [hsu, List.length_append]
        exact h
      refine (rd0 h).ix (by decide) (by omega) (by omega) fun a ha => ?_
      rw [ei, add_add]
      refine (rd0 h).ldI ha g2 ?_
      have skip : ∀ {w4}, ¬ (0 ≤ n ∧ n ≤ 24) → St [] w w4 (rrA rb (val l) ((l.length + 7) / 8) A.length :: []) → I ((i : Int) + 1) w4 ∧ μ ((i : Int) + 1) w4 < μ (i : Int) w3 := by
        intro w4 hn h
        refine next w4 ?_
        have : both (op, v, n) = [] := by simp [both, pb, hn]
        rw [this]
        exact h
      refine br_d (fun gn => ?_) (fun gn => ?_)
      · refine lt_as (wrap_i64 (by omega) (by omega)) ?_
        exact ⟨⟨rfl, rfl⟩, skip (by omega) h⟩
      refine br_d (fun gm => ?_) (fun gm => ?_)
      · refine lt_as (wrap_i64 (by omega) (by omega)) ?_
        exact ⟨⟨rfl, rfl⟩, skip (by omega) h⟩
      obtain ⟨t, rfl⟩ : ∃ t : Nat, n = t := ⟨n.toNat, by omega⟩
      have hpb : pb v t = bitsOf v t := by unfold pb; rw [if_pos (by omega), Int.toNat_natCast]
      have hbl : (bitsOf v t).length = t := bitsOf_length v t
      have hbo : both (op, v, (t : Int)) = bitsOf v t ++ (bitsOf v t).reverse := by rw [both]; simp only [hpb]
      rw [hbo, List.length_append, List.length_reverse, hbl] at hll
      refine (rd0 h).ix (by decide) (by omega) (by omega) fun a ha => ?_
      rw [ei, add_add]
      refine (rd0 h).ldI ha g1' ?_
      refine lt_as (show IntKind.u64.wrap (t : Int) = t by rw [wrap_u64]; omega) ?_
      refine ⟨by omega, ?_⟩
      have p1 : (2 : Nat) ^ t ≤ 2 ^ 24 := Nat.pow_le_pow_right (by decide) (by omega)
      have p2 : ((2 ^ t : Nat) : Int) = 2 ^ t := by simp
      have p3 : (0 : Int) < 2 ^ t := Int.pow_pos (by decide)
      refine lt_as (shlV_nat .i64 (show t ≤ 64 by omega) (by omega) (by show (1 : Int) * 2 ^ t < 2 ^ 63; omega)) ?_
      rw [Int.one_mul]
      refine lt_as (wrap_i64 (by omega) (by omega)) ?_
      refine lt_as (andV_mod .i64 _ (show t < 64 by omega)) ?_
      rw [← val_bitsOf v t]
      have no : ∀ {x y z}, getOk ((l.length + 7) / 8) x y = false → 0 ≤ y ∧ y ≤ 24 ∧ (x : Int) + y ≤ l.length → z := by
        intro x y z h1 h2
        simp [getOk] at h1
        omega
      refine bits_Reader_Get.c h (by omega) (by omega) (fun _ w4 h => ⟨_, _, rfl, ?_⟩) (fun gk => no gk (by omega))
      refine bits_Reader_Get.c h (by omega) (by omega) (fun _ w5 h => ⟨_, _, rfl, ?_⟩) (fun gk => no gk (by omega))
      refine h.drewK fun w5 h => ?_
      rw [hbo] at hcut
      have r1 : val l / 2 ^ A.length % 2 ^ ((t : Int)).toNat = val (bitsOf v t) := by
        have := @read_mid A (bitsOf v t) ((bitsOf v t).reverse ++ C)
        rw [hbl] at this
        rw [hcut, Int.toNat_natCast, List.append_assoc]
        exact this
      have r2 : val l / 2 ^ (A.length + ((t : Int)).toNat) % 2 ^ ((t : Int)).toNat = val (bitsOf v t).reverse := by
        have := @read_mid (A ++ bitsOf v t) (bitsOf v t).reverse C
        rw [List.length_reverse, List.length_append, hbl] at this
        rw [hcut, Int.toNat_natCast, List.append_assoc, ← List.append_assoc A]
        exact this
      rw [r1, r2]
      have ht24 : t ≤ 24 := by omega
      obtain ⟨t1, t2⟩ := turn_turn (v := v) ht24
      refine br_b (fun h1 => by cases h1) fun _ => ?_
      refine br_b (fun h1 => by cases h1) fun _ => ?_
      refine br_b (fun h1 => by simp at h1) fun _ => ?_
      refine bits_Turn.c ⟨_, rfl, ?_⟩
      rw [t1]
      refine br_b (fun h1 => by simp at h1) fun _ => ?_
      refine bits_Turn.c ⟨_, rfl, ?_⟩
      refine bits_Turn.c ⟨_, rfl, ?_⟩
      rw [t2]
      refine br_b (fun h1 => by simp at h1) fun _ => ?_
      refine (rd0 h).ix (by decide) (by omega) (by omega) fun a ha => ?_
      rw [ei, add_add]
      refine (rd0 h).ldI ha g1' ?_
      refine (rd0 h).ix (by decide) (by omega) (by omega) fun a ha => ?_
      rw [ei, add_add]
      have fin : I ((i : Int) + 1) w5 ∧ μ ((i : Int) + 1) w5 < μ (i : Int) w3 := by
        refine next w5 ?_
        rw [hbo, List.length_append, List.length_reverse, hbl, ← Nat.add_assoc]
        rw [Int.toNat_natCast] at h
        exact h
      refine ⟨?_, ?_⟩
      · refine bits_Turn.c ⟨_, rfl, ?_⟩
        refine (rd0 h).ldI ha g1' ?_
        refine troveref2_Turn.c ⟨_, rfl, ?_⟩
        refine br_b (fun h1 => by simp at h1) fun _ => ?_
        refine lt_as (wrap_i64 (by omega) (by omega)) ?_
        exact ⟨⟨rfl, rfl⟩, fin⟩
      · refine (rd0 h).ldI ha g1' ?_
        refine bits_Turn.c ⟨_, rfl, ?_⟩
        refine troveref2_Turn.c ⟨_, rfl, ?_⟩
        refine br_b (fun h1 => by simp at h1) fun _ => ?_
        refine lt_as (wrap_i64 (by omega) (by omega)) ?_
        exact ⟨⟨rfl, rfl⟩, fin⟩
    · have : i = xs.length := by omega
      subst this
      rw [List.take_length, hl] at h
      unfold trovelaw2_BitsBack.j5
      refine bits_Reader_Left.c h (by omega) (by omega) fun w4 h => ⟨_, rfl, ?_⟩
      have : decide ((8 * (((l.length + 7) / 8 : Nat) : Int) - (l.length : Int) : Int) < 8) = true := by
        rw [decide_eq_true_eq]; omega
      rw [this]
      exact done h

end Go.Proofs.Ytkajimndclhgaaa
