/- Huffman codes: the statements on order and room. Own work. -/
import Derived.Test.YtkajimndclhgaaaHuffD
namespace Go.Proofs.Ytkajimndclhgaaa
open Go Go.Proofs
set_option linter.unusedVariables false
set_option linter.unusedSimpArgs false
attribute [local irreducible] apK cpK mkK br

theorem trovelaw5_HuffOrder.law (s : Sl) (ls : List Int) (W : World) (hr : Rd W 1 s (ivs .i64 ls)) (_ : ∀ n ∈ ls, (Lit.int .i64 n).wf = true) :
    Calls Try.prog 22 ⟨[.slice s.a s.len s.cap]⟩ W fun e w' => e = .returned (.bool true) ∧ Mod [] W w' := by
  refine ret_k (trovelaw5_HuffOrder.ok _ _ _ ?_)
  unfold trovelaw5_HuffOrder trovelaw5_HuffOrder.j1
  have hls := hr.1
  rw [ivs_length] at hls
  haveI : ∀ ps, Rdb [] W s ps 1 (ivs .i64 ls) := fun ps => Rdb.start hr
  refine trovelaw5_known.c (St.start0 (w := W)) fun w h => ⟨_, rfl, br_f1 ?_⟩
  refine br_d (fun _ => ⟨rfl, h.mod⟩) fun g1 => ?_
  unfold trovelaw5_HuffOrder.j2
  refine huff_Codes.c h (fun c w g h => ⟨c, _, rfl, ?_⟩) (fun w g h => ⟨⟨none, 0, 0⟩, _, rfl, ?_⟩)
  rotate_left
  · refine br_is (by simpa using g) ?_
    exact ⟨rfl, h.mod⟩
  obtain ⟨hok, hkr, hlen, _⟩ := hchk_ok g
  refine br_f1 ?_
  have hcl := h.len
  rw [ivs_length, hcodes_length] at hcl
  unfold trovelaw5_HuffOrder.j3 trovelaw5_HuffOrder.j5
  refine loop1 (fun (i : Nat) (i' : Int) w' => i' = i ∧ i ≤ ls.length ∧ St [] W w' [ownA 1 c (ivs .i64 (hcodes ls))]) (fun i => ls.length - i) 0 ⟨rfl, by omega, h⟩ ?_
  clear h
  rintro i i' w I μ ⟨rfl, hi, h⟩ hin
  unfold trovelaw5_HuffOrder.b1
  refine br_d (fun g2 => ?_) (fun g2 => ?_)
  rotate_left
  · unfold trovelaw5_HuffOrder.j4
    exact ⟨rfl, h.mod⟩
  have hil : i < ls.length := by omega
  have hx := hok _ (mem_getD hil)
  have hci := hcodes_getD ls hil
  unfold trovelaw5_HuffOrder.j6
  refine h.lx (s := s) i rfl hil ?_
  refine br_b (fun g3 => ?_) (fun g3 => ?_)
  · have g3 : ls.getD i 0 = 0 := by simpa using g3
    refine h.lx (s := c) i rfl (by rw [hcodes_length]; exact hil) ?_
    rw [hci, hcode_no (by omega)]
    refine br_no (by rfl) ?_
    unfold trovelaw5_HuffOrder.j7
    refine lt_as (wrap_i64 (by omega) (by omega)) ?_
    exact ⟨⟨rfl, rfl⟩, hin (i + 1) _ _ ⟨by omega, by omega, h⟩ (by omega)⟩
  have g3 : ls.getD i 0 ≠ 0 := by simpa using g3
  obtain ⟨m, hm⟩ : ∃ m : Nat, ls.getD i 0 = m := ⟨(ls.getD i 0).toNat, by omega⟩
  have hsz := hcode_size hok hkr hil hm (by omega)
  unfold trovelaw5_HuffOrder.j8
  refine h.drewK fun w h => ?_
  refine h.lx (s := c) i rfl (by rw [hcodes_length]; exact hil) ?_
  rw [hci]
  refine br_d (fun g4 => by omega) (fun g4 => ?_)
  refine h.lx (s := c) i rfl (by rw [hcodes_length]; exact hil) ?_
  refine h.lx (s := s) i rfl hil ?_
  rw [hci, hm]
  refine lt_as (show IntKind.u64.wrap (m : Int) = (m : Int) by rw [wrap_u64]; omega) ?_
  refine ⟨by omega, lt_as (shl_room (c := 1) (by decide) (show m ≤ 15 by omega)) ?_⟩
  rw [Nat.one_mul]
  refine br_d (fun g5 => by omega) (fun g5 => ?_)
  unfold trovelaw5_HuffOrder.j9
  refine loop1 (fun (k : Nat) (k' : Int) w' => k' = k ∧ k ≤ ls.length ∧ St [] W w' [ownA 1 c (ivs .i64 (hcodes ls))]) (fun k => ls.length - k) 0 ⟨rfl, by omega, h⟩ ?_
  clear h
  rintro k k' w I2 μ2 ⟨rfl, hk, h⟩ hin2
  unfold trovelaw5_HuffOrder.b2
  refine br_d (fun g6 => ?_) (fun g6 => ?_)
  rotate_left
  · unfold trovelaw5_HuffOrder.j7
    refine lt_as (wrap_i64 (by omega) (by omega)) ?_
    exact ⟨⟨rfl, rfl⟩, hin (i + 1) _ _ ⟨by omega, by omega, h⟩ (by omega)⟩
  have hkl : k < ls.length := by omega
  have next : ∀ w', St [] W w' [ownA 1 c (ivs .i64 (hcodes ls))] → lt (IntKind.i64.wrap ((k : Int) + 1)) fun x => ((s = s ∧ c = c ∧ (i : Int) = i) ∧ I2 x w' ∧ μ2 x w' < μ2 k w) := by
    intro w' h
    refine lt_as (wrap_i64 (by omega) (by omega)) ?_
    exact ⟨⟨rfl, rfl, rfl⟩, hin2 (k + 1) _ _ ⟨by omega, by omega, h⟩ (by omega)⟩
  have hy := hok _ (mem_getD hkl)
  have hck := hcodes_getD ls hkl
  refine h.drewK fun w h => ?_
  refine br_b (fun g7 => next w h) (fun g7 => ?_)
  have g7 : k ≠ i := fun e => by rw [e] at g7; simp at g7
  refine h.lx (s := s) k rfl hkl ?_
  refine h.lx (s := s) i rfl hil ?_
  refine br_d (fun g8 => next w h) (fun g8 => ?_)
  obtain ⟨n, hn⟩ : ∃ n : Nat, ls.getD k 0 = n := ⟨(ls.getD k 0).toNat, by omega⟩
  have hmn : m ≤ n := by omega
  have hszk := hcode_size hok hkr hkl hn (by omega)
  refine h.drewK fun w h => ?_
  refine h.lx (s := c) k rfl (by rw [hcodes_length]; exact hkl) ?_
  refine h.lx (s := s) k rfl hkl ?_
  refine h.lx (s := s) i rfl hil ?_
  rw [hck, hm, hn]
  refine lt_as (wrap_i64 (by omega) (by omega)) ?_
  refine lt_as (show IntKind.u64.wrap ((n : Int) - (m : Int)) = ((n - m : Nat) : Int) by rw [wrap_u64]; omega) ?_
  refine ⟨by omega, lt_as (shrV_nat .i64 _ (show n - m ≤ 64 by omega)) ?_⟩
  refine h.lx (s := c) i rfl (by rw [hcodes_length]; exact hil) ?_
  rw [hci]
  have hne : ¬ hcode ls k / 2 ^ (n - m) = hcode ls i := by
    rcases Nat.lt_or_ge m n with h1 | h1
    · have h2 := hcode_ge (l := ls) hn h1
      have h3 := (Nat.le_div_iff_mul_le (Nat.pow_pos (by decide) : 0 < 2 ^ (n - m))).2 h2
      have h4 := (hcode_lt hil hm (by omega)).2
      omega
    · have e : n = m := by omega
      rw [e, Nat.sub_self, Nat.pow_zero, Nat.div_one]
      intro e2
      exact g7 (hcode_inj hkl hil (by rw [hn, e]) hm (by omega) e2)
  have e1 : ((hcode ls k : Int) / 2 ^ (n - m) == (hcode ls i : Int)) = false := by
    apply beq_eq_false_iff_ne.2
    intro e
    apply hne
    have : ((hcode ls k / 2 ^ (n - m) : Nat) : Int) = (hcode ls i : Int) := by rw [Int.natCast_ediv, Int.natCast_pow]; exact e
    omega
  refine br_no e1 ?_
  refine h.lx (s := s) k rfl hkl ?_
  refine h.lx (s := s) i rfl hil ?_
  rw [hm, hn]
  refine br_b (fun g9 => ?_) (fun g9 => next w h)
  have g9 : n = m := by have : (n : Int) = m := by simpa using g9
                        omega
  refine h.lx (s := c) k rfl (by rw [hcodes_length]; exact hkl) ?_
  refine h.lx (s := c) i rfl (by rw [hcodes_length]; exact hil) ?_
  rw [hci, hck]
  have e2 : (decide ((k : Int) < i) == decide ((hcode ls k : Int) < hcode ls i)) = true := by
    have ek := hcode_eq hn (show 0 < n by omega)
    have ei := hcode_eq hm (show 0 < m by omega)
    unfold hc at ek ei
    rw [if_neg (by omega)] at ek ei
    rw [g9] at ek
    rcases Nat.lt_or_ge k i with h1 | h1
    · have := rank_mono h1 hil (by rw [hn, g9])
      rw [decide_eq_true (show (k : Int) < i by omega), decide_eq_true (show (hcode ls k : Int) < hcode ls i by omega)]
      rfl
    · have := rank_mono (show i < k by omega) hkl hm
      rw [decide_eq_false (show ¬ (k : Int) < i by omega), decide_eq_false (show ¬ (hcode ls k : Int) < hcode ls i by omega)]
      rfl
  rw [e2]
  exact br_f1 (next w h)

/-! ### room -/

theorem kr_append (a b : List Int) : kr (a ++ b) = kr a + kr b := by simp [kr]
theorem kr_rep (c n : Nat) : kr (List.replicate c (n : Int)) = c * if 0 < n then 2 ^ (15 - n) else 0 := by
  induction c with
  | zero => simp [kr]
  | succ c ih =>
    rw [List.replicate_succ', kr_snoc, ih, Nat.succ_mul]
    congr 1
    by_cases h : 0 < n
    · rw [if_pos (by omega), if_pos h, Int.toNat_natCast]
    · rw [if_neg (by omega), if_neg h]
theorem okL_append {a b : List Int} (ha : okL a) (hb : okL b) : okL (a ++ b) := fun x hx => by
  rcases List.mem_append.1 hx with hx | hx
  · exact ha x hx
  · exact hb x hx
theorem okL_rep (c : Nat) {n : Int} (h : 0 ≤ n ∧ n ≤ 15) : okL (List.replicate c n) := fun x hx => by rw [List.eq_of_mem_replicate hx]; exact h
theorem hchk_is {l : List Int} (h1 : l.length ≤ 288) (h2 : okL l) : hchk l = if 32768 < kr l then (false, 2) else (decide (kr l = 32768), 0) := by
  unfold hchk
  rw [if_neg (by omega), if_neg (fun e => e h2)]
theorem pos_rep (c n : Nat) : ((List.replicate c (n : Int)).filter (0 < ·)).sum = (c * n : Nat) := by
  induction c with
  | zero => simp
  | succ c ih =>
    rw [List.replicate_succ', List.filter_append, List.sum_append, ih, Nat.succ_mul]
    by_cases h : 0 < n
    · simp [h]
    · have : n = 0 := by omega
      subst this; simp

theorem trovelaw5_HuffRoom.law (n d : Int) (W : World) (hn : (Lit.int .i64 n).wf = true) (hd : (Lit.int .i64 d).wf = true) :
    Calls Try.prog 21 ⟨[.int .i64 n, .int .i64 d]⟩ W fun e w' => e = .returned (.bool true) ∧ Mod [] W w' := by
  refine ret_k (trovelaw5_HuffRoom.ok _ _ _ _ ?_)
  unfold trovelaw5_HuffRoom
  refine trovelaw5_known.c (St.start0 (w := W)) fun w h => ⟨_, rfl, br_f1 ?_⟩
  unfold trovelaw5_HuffRoom.j1
  refine br_d (fun _ => ⟨rfl, h.mod⟩) fun g1 => ?_
  refine br_d (fun _ => ⟨rfl, h.mod⟩) fun g2 => ?_
  refine br_d (fun _ => ⟨rfl, h.mod⟩) fun g3 => ?_
  obtain ⟨n, rfl⟩ : ∃ t : Nat, n = t := ⟨n.toNat, by omega⟩
  obtain ⟨d, rfl⟩ : ∃ t : Nat, d = t := ⟨d.toNat, by omega⟩
  have hL2 : n = 1 ∧ (2 : Nat) ^ n = 2 ∧ (2 : Nat) ^ (15 - n) = 16384 ∨ 2 ≤ n ∧ 4 ≤ (2 : Nat) ^ n ∧ (2 : Nat) ^ n ≤ 256 ∧ (2 : Nat) ^ n * 2 ^ (15 - n) = 32768 ∧ 0 < (2 : Nat) ^ (15 - n) := by
    have : n = 1 ∨ n = 2 ∨ n = 3 ∨ n = 4 ∨ n = 5 ∨ n = 6 ∨ n = 7 ∨ n = 8 := by omega
    rcases this with rfl | rfl | rfl | rfl | rfl | rfl | rfl | rfl <;> decide
  have e1 : IntKind.u64.wrap (n : Int) = n := by rw [wrap_u64]; omega
  have e2 : shlV .i64 1 (n : Int) = ((2 ^ n : Nat) : Int) := by
    have := shl_room (c := 1) (n := n) (by decide) (by omega)
    rw [Nat.one_mul] at this
    exact this
  refine lt_as e1 ⟨by omega, lt_as e2 ?_⟩
  refine br_d (fun _ => ⟨rfl, h.mod⟩) fun g4 => ?_
  refine lt_as e1 ⟨by omega, lt_as e2 ?_⟩
  generalize hL : (2 : Nat) ^ n = L at hL2 g4
  generalize hP : (2 : Nat) ^ (15 - n) = P at hL2
  have hLP : L * P = 32768 := by
    rcases hL2 with ⟨_, h1, h2⟩ | ⟨_, _, _, h1, _⟩
    · rw [h1, h2]
    · exact h1
  have hP0 : 0 < P := by
    rcases hL2 with ⟨_, h1, h2⟩ | ⟨_, _, _, h1, h2⟩
    · omega
    · exact h2
  have hn0 : 0 < n := by omega
  have hLs : 2 ≤ L ∧ L ≤ 256 := by omega
  refine h.makeI (n := L) rfl rfl (by omega) fun t w h1 h2 h => ?_
  unfold trovelaw5_HuffRoom.j2 trovelaw5_HuffRoom.j4
  refine loop1 (fun (i : Nat) (i' : Int) w' => i' = i ∧ i ≤ L ∧ St [] W w' [ownA 1 t (ivs .i64 (List.replicate i (n : Int) ++ List.replicate (L - i) 0))]) (fun i => L - i) 0 ⟨rfl, by omega, by simpa using h⟩ ?_
  clear h
  rintro i i' w I μ ⟨rfl, hi, h⟩ hin
  unfold trovelaw5_HuffRoom.b1
  refine br_d (fun g5 => ?_) (fun g5 => ?_)
  · refine h.sx i rfl (by simp; omega) fun w h => ?_
    refine lt_as (wrap_i64 (by omega) (by omega)) ?_
    refine ⟨⟨rfl, rfl, rfl⟩, hin (i + 1) _ _ ⟨by omega, by omega, ?_⟩ (by omega)⟩
    have es := set_nx (l := List.replicate i (n : Int)) (k := L - i) (i := i) (v := n) (by simp) (by omega)
    rw [es, show L - i - 1 = L - (i + 1) by omega, ← List.replicate_succ'] at h
    exact h
  have : i = L := by omega
  subst this
  rw [Nat.sub_self, List.replicate_zero, List.append_nil] at h
  clear hin
  have ok1 : okL (List.replicate i (n : Int)) := okL_rep _ (by omega)
  have k1 : kr (List.replicate i (n : Int)) = 32768 := by rw [kr_rep, if_pos hn0, hP]; exact hLP
  have c1 : hchk (List.replicate i (n : Int)) = (true, 0) := by
    rw [hchk_is (by simp; omega) ok1, k1]; rfl
  have c2 : hchk (List.replicate i (n : Int) ++ [15]) = (false, 2) := by
    rw [hchk_is (by simp; omega) (okL_append ok1 (by intro x hx; simp at hx; omega)), kr_append, k1]; rfl
  have less : (List.replicate i (n : Int)).set d 0 = List.replicate d (n : Int) ++ ([((0 : Nat) : Int)] ++ List.replicate (i - d - 1) (n : Int)) := by
    have : List.replicate i (n : Int) = List.replicate d (n : Int) ++ ([(n : Int)] ++ List.replicate (i - d - 1) (n : Int)) := by
      rw [← List.replicate_one, List.replicate_append_replicate, List.replicate_append_replicate]
      congr 1; omega
    rw [this, List.set_append_right _ _ (by simp), List.length_replicate, Nat.sub_self]
    rfl
  have ok3 : okL (List.replicate d (n : Int) ++ ([((0 : Nat) : Int)] ++ List.replicate (i - d - 1) (n : Int))) := okL_append (okL_rep _ (by omega)) (okL_append (by intro x hx; simp at hx; omega) (okL_rep _ (by omega)))
  have k3 : kr (List.replicate d (n : Int) ++ ([((0 : Nat) : Int)] ++ List.replicate (i - d - 1) (n : Int))) < 32768 := by
    rw [kr_append, kr_append, kr_rep, kr_rep, if_pos hn0, hP]
    have e0 : kr [((0 : Nat) : Int)] = 0 := rfl
    rw [e0, Nat.zero_add, ← Nat.add_mul, ← hLP]
    exact Nat.mul_lt_mul_of_pos_right (by omega) hP0
  have l3 : (List.replicate d (n : Int) ++ ([((0 : Nat) : Int)] ++ List.replicate (i - d - 1) (n : Int))).length ≤ 288 := by simp; omega
  have c3 : hchk (List.replicate d (n : Int) ++ ([((0 : Nat) : Int)] ++ List.replicate (i - d - 1) (n : Int))) = (false, 0) := by
    rw [hchk_is l3 ok3, if_neg (by omega), decide_eq_false (by omega)]
  have s3 : ((List.replicate d (n : Int) ++ ([((0 : Nat) : Int)] ++ List.replicate (i - d - 1) (n : Int))).filter (0 < ·)).sum = (((i - 1) * n : Nat) : Int) := by
    rw [List.filter_append, List.filter_append, List.sum_append, List.sum_append, pos_rep, pos_rep]
    have e0 : ([((0 : Nat) : Int)].filter (0 < ·)).sum = 0 := rfl
    rw [e0, Int.zero_add, ← Int.natCast_add, ← Nat.add_mul, show d + (i - d - 1) = i - 1 by omega]
  have w3 : hnew (List.replicate d (n : Int) ++ ([((0 : Nat) : Int)] ++ List.replicate (i - d - 1) (n : Int))) true = if n = 1 then 0 else 2 := by
    unfold hnew
    rw [c3, hhalf_eq ok3, s3]
    simp only [ne_eq, not_true, if_false, true_and, Bool.true_and]
    rcases hL2 with ⟨h1, h2, _⟩ | ⟨h1, h2, _⟩
    · subst h1 h2
      rfl
    · rw [if_neg (show ¬ n = 1 by omega), if_pos]
      rw [decide_eq_false_iff_not]
      have : 3 * 2 ≤ (i - 1) * n := Nat.mul_le_mul (by omega) h1
      omega
  unfold trovelaw5_HuffRoom.j3
  refine huff_Check.c h fun w h => ⟨_, _, rfl, ?_⟩
  rw [c1]
  refine h.clone (k := .i64) (s2 := t) (by simp; omega) fun s8 w h => ?_
  refine h.pushI (by simp; omega) fun s13 w h => ?_
  refine huff_Check.c h fun w h => ⟨_, _, rfl, ?_⟩
  rw [c2]
  refine h.clone (k := .i64) (s2 := t) (by simp; omega) fun s22 w h => ?_
  refine h.sx d rfl (by simp; omega) fun w h => ?_
  rw [less] at h
  refine huff_Check.c h fun w h => ⟨_, _, rfl, ?_⟩
  rw [c3]
  refine huff_New.n (half := true) h fun p w hp h => ⟨p, _, rfl, ?_⟩
  rw [w3] at hp ⊢
  refine br_t1 (br_is rfl (br_is rfl (br_t1 (br_is rfl ?_))))
  by_cases h1 : n = 1
  · rw [if_pos h1] at hp ⊢
    subst h1
    refine br_is rfl ?_
    rw [hp]
    exact ⟨rfl, h.mod⟩
  · rw [if_neg h1] at hp ⊢
    have e : ((n : Int) == 1) = false := by apply beq_eq_false_iff_ne.2; omega
    rw [e]
    refine br_is rfl ?_
    rw [hp]
    exact ⟨rfl, h.mod⟩

end Go.Proofs.Ytkajimndclhgaaa
