/- Huffman codes: a code made, read, written: the program's texts. Own work. -/
import Derived.Test.YthdmmmfgjmmelaaHuffA
namespace Go.Proofs.Ythdmmmfgjmmelaa
open Go Go.Proofs
set_option linter.unusedVariables false
set_option linter.unusedSimpArgs false
attribute [local irreducible] apK cpK mkK

def nats (l : List Nat) : List Int := l.map fun n : Nat => (n : Int)
theorem nats_length (l : List Nat) : (nats l).length = l.length := by simp [nats]
theorem nats_getD (l : List Nat) (i : Nat) : (nats l).getD i 0 = ((l.getD i 0 : Nat) : Int) := by
  unfold nats
  rw [List.getD_eq_getElem?_getD, List.getElem?_map, List.getD_eq_getElem?_getD]
  cases l[i]? <;> rfl

theorem hsyms_le (l : List Int) : ∀ n, (hsyms l n).length ≤ n * l.length := by
  intro n
  induction n with
  | zero => simp [hsyms]
  | succ n ih =>
    have h4 := hpos_length l (n + 1)
    have h5 := List.count_le_length (a := ((n + 1 : Nat) : Int)) (l := l)
    rw [hsyms, List.length_append, Nat.succ_mul]
    omega

/-- the cells of a code -/
def hcC (s1 s2 s3 : Sl) (ls : List Int) : List Value := .slice s1.a s1.len s1.cap :: .slice s2.a s2.len s2.cap :: (ivs .i64 (clL ls) ++ [.slice s3.a s3.len s3.cap])

theorem hcC_18 (s1 s2 s3 : Sl) (ls : List Int) : (hcC s1 s2 s3 ls)[18]? = some (.slice s3.a s3.len s3.cap) := by
  unfold hcC
  rw [List.getElem?_cons_succ, List.getElem?_cons_succ, List.getElem?_append_right (by rw [ivs_length, clL_length]; decide), ivs_length, clL_length]
  rfl
theorem hcC_n (s1 s2 s3 : Sl) (ls : List Int) {n : Nat} (h : n < 16) : (hcC s1 s2 s3 ls)[2 + n]? = some (.int .i64 (hc ls n)) := by
  unfold hcC
  rw [show 2 + n = n + 1 + 1 by omega, List.getElem?_cons_succ, List.getElem?_cons_succ, List.getElem?_append_left (by rw [ivs_length, clL_length]; exact h), ivs_get (by rw [clL_length]; exact h), clL_getD _ h]
theorem hcC_length (s1 s2 s3 : Sl) (ls : List Int) : (hcC s1 s2 s3 ls).length = 19 := by
  unfold hcC
  rw [List.length_cons, List.length_cons, List.length_append, ivs_length, clL_length]
  rfl
theorem hcC_set18 (s1 s2 s3 s : Sl) (ls : List Int) : (hcC s1 s2 s3 ls).set 18 (.slice s.a s.len s.cap) = hcC s1 s2 s ls := by
  unfold hcC
  rw [List.set_cons_succ, List.set_cons_succ, List.set_append_right _ _ (by rw [ivs_length, clL_length]; decide), ivs_length, clL_length]
  rfl

theorem hcC_set1 (s1 s2 s3 s : Sl) (ls : List Int) : (hcC s1 s2 s3 ls).set 1 (.slice s.a s.len s.cap) = hcC s1 s s3 ls := rfl

theorem spl_hc (s : Sl) (f : Nat → Int) : spl [.slice s.a s.len s.cap, .slice none 0 0, .int .i64 0, .int .i64 0, .int .i64 0, .int .i64 0, .int .i64 0, .int .i64 0, .int .i64 0, .int .i64 0, .int .i64 0, .int .i64 0, .int .i64 0, .int .i64 0, .int .i64 0, .int .i64 0, .int .i64 0, .int .i64 0, .slice none 0 0] 2 ⟨ivs .i64 (mapR 16 f)⟩ =
    .slice s.a s.len s.cap :: .slice none 0 0 :: (ivs .i64 (mapR 16 f) ++ [.slice none 0 0]) := by kernel_rfl

section
variable {F0 : List Nat} {w0 w : World} {ps rest : List As} {ls : List Int}

/-- at cb stands the code of the lengths ls -/
def hcA (cb : Nat) (ls : List Int) : As := exA fun s : Sl × Sl × Sl => ifA (okL ls ∧ kr ls ≤ 32768 ∧ ls.length ≤ 288) <| andA (blkA cb (hcC s.1 s.2.1 s.2.2 ls)) <| andA (ownA 1 s.1 (ivs .i64 ls)) <| andA (ownA 1 s.2.1 (ivs .i64 (hcodes ls))) (ownA 1 s.2.2 (ivs .i64 (nats (hsyms ls 15))))

theorem hcA_get (cb : Nat) (h : St F0 w0 w ps) [PkF hcA cb ps ls rest] : okL ls ∧ kr ls ≤ 32768 ∧ ls.length ≤ 288 ∧ ∃ s1 s2 s3 : Sl, Blk w cb (hcC s1 s2 s3 ls) ∧ Rd w 1 s1 (ivs .i64 ls) ∧ Rd w 1 s2 (ivs .i64 (hcodes ls)) ∧ Rd w 1 s3 (ivs .i64 (nats (hsyms ls 15))) := by
  obtain ⟨s, h⟩ := (h.toF hcA cb).exE
  obtain ⟨⟨h1, h2, h3⟩, h⟩ := h.ifE
  have h := h.split
  have g := h.drop.split
  have g2 := g.drop.split
  exact ⟨h1, h2, h3, s.1, s.2.1, s.2.2, h.blk, g.ord, g2.ord, g2.drop.ord⟩

theorem hcA_i {cb : Nat} {s1 s2 s3 : Sl} (h1 : okL ls) (h2 : kr ls ≤ 32768) (h3 : ls.length ≤ 288) (h : St F0 w0 w (blkA cb (hcC s1 s2 s3 ls) :: ownA 1 s1 (ivs .i64 ls) :: ownA 1 s2 (ivs .i64 (hcodes ls)) :: ownA 1 s3 (ivs .i64 (nats (hsyms ls 15))) :: rest)) : St F0 w0 w (hcA cb ls :: rest) := by
  have h := (h.tail fun _ _ _ h => (h.tail fun _ _ _ h => h.join).join).join
  exact (h.ifI (c := okL ls ∧ kr ls ≤ 32768 ∧ ls.length ≤ 288) ⟨h1, h2, h3⟩).exI (p := fun s : Sl × Sl × Sl => ifA (okL ls ∧ kr ls ≤ 32768 ∧ ls.length ≤ 288) <| andA (blkA cb (hcC s.1 s.2.1 s.2.2 ls)) <| andA (ownA 1 s.1 (ivs .i64 ls)) <| andA (ownA 1 s.2.1 (ivs .i64 (hcodes ls))) (ownA 1 s.2.2 (ivs .i64 (nats (hsyms ls 15))))) (s1, s2, s3)

theorem Blk.cnt {cb : Nat} {s1 s2 s3 : Sl} {i : Int} {K : Int → Prop} (hb : Blk w cb (hcC s1 s2 s3 ls)) (n : Nat) (hi : i = n) (hn : n < 16) (hk : K (hc ls n)) : ixA (Addr.add ⟨cb, 0, none⟩ 2) 16 i 1 fun a => Go.Proofs.Ythdmmmfgjmmelaa.ldI .i64 w a K := by
  subst hi
  refine ixA_b' (b := cb) (o := 2) (by omega) (by omega) ?_
  refine hb.ldI ?_ hk
  rw [show 2 + ((n : Int)).toNat * 1 = 2 + n by omega]
  exact hcC_n s1 s2 s3 ls hn

theorem hpos_take_sn {i : Nat} (h : i < ls.length) (n : Nat) : hpos (ls.take (i + 1)) n = hpos (ls.take i) n ++ if ls.getD i 0 = n then [i] else [] := by
  rw [take_sn h, hpos_snoc, List.length_take, Nat.min_eq_left (by omega)]

theorem huff_New.c {s : Sl} {half : Bool} {K : Ending → World → Prop} (h : St F0 w0 w ps) [Rdb F0 w0 s ps 1 (ivs .i64 ls)]
    (hk : ∀ cb w', hnew ls half = 0 → St F0 w0 w' (hcA cb ls :: ps) → K (.returned (.tuple ⟨[.pointer (some ⟨cb, 0, none⟩), .int .i64 0]⟩)) w')
    (hk2 : ∀ w', hnew ls half ≠ 0 → St F0 w0 w' ps → K (.returned (.tuple ⟨[.pointer none, .int .i64 (hnew ls half)]⟩)) w') : Calls Try.prog 16 ⟨[.slice s.a s.len s.cap, .bool half]⟩ w K := by
  have hl := (h.rdb s).1
  rw [ivs_length] at hl
  refine ret_k (huff_New.ok _ _ _ _ ?_)
  unfold huff_New
  refine huff_Check.c h fun w h => ⟨_, _, rfl, ?_⟩
  unfold huff_New.j1
  refine br_b (fun g => ?_) (fun g => ?_)
  · have g : (hchk ls).2 ≠ 0 := by simpa using g
    have e : hnew ls half = (hchk ls).2 := by unfold hnew; rw [if_pos g]
    rw [e] at hk2
    exact hk2 w g h
  have g : (hchk ls).2 = 0 := by simpa using g
  obtain ⟨hok, hkr, hlen, hfull⟩ := hchk_ok g
  refine h.clone (k := .i64) (s2 := s) (by omega) fun s1 w h => ?_
  refine huff_counts.c h hok (by omega) fun w h => ⟨_, rfl, ?_⟩
  refine ⟨by show (ivs .i64 (clL ls)).length = 16; rw [ivs_length, clL_length], ?_⟩
  refine h.new fun cb w h => ?_
  have h : St F0 w0 w (blkA cb (hcC s1 ⟨none, 0, 0⟩ ⟨none, 0, 0⟩ ls) :: ownA 1 s1 (ivs .i64 ls) :: ps) := new_asL (spl_hc s1 fun n => (hc ls n : Int)) h
  unfold huff_New.j2 huff_New.j5
  refine loop1 (fun (n : Nat) (n' : Int) w' => n' = n ∧ 1 ≤ n ∧ n ≤ 16 ∧ ∃ s3, St F0 w0 w' (blkA cb (hcC s1 ⟨none, 0, 0⟩ s3 ls) :: ownA 1 s3 (ivs .i64 (nats (hsyms ls (n - 1)))) :: ownA 1 s1 (ivs .i64 ls) :: ps)) (fun n => 16 - n) 1 ⟨rfl, by omega, by omega, ⟨none, 0, 0⟩, (h.nil 1).at1⟩ ?_
  clear h
  rintro n n' w I μ ⟨rfl, hn1, hn, s3, h⟩ hin
  obtain ⟨m, rfl⟩ : ∃ m, n = m + 1 := ⟨n - 1, by omega⟩
  rw [Nat.add_sub_cancel] at h
  unfold huff_New.b1
  refine br_d (fun g2 => ?_) (fun g2 => ?_)
  · unfold huff_New.j6 huff_New.j8
    refine loop1 (fun (i : Nat) (i' : Int) w' => i' = i ∧ i ≤ ls.length ∧ ∃ s3, St F0 w0 w' (blkA cb (hcC s1 ⟨none, 0, 0⟩ s3 ls) :: ownA 1 s3 (ivs .i64 (nats (hsyms ls m ++ hpos (ls.take i) (m + 1)))) :: ownA 1 s1 (ivs .i64 ls) :: ps)) (fun i => ls.length - i) 0 ⟨rfl, by omega, s3, by
      have : hpos (ls.take 0) (m + 1) = [] := rfl
      rw [this, List.append_nil]; exact h⟩ ?_
    clear h
    rintro i i' w I2 μ2 ⟨rfl, hi, s4, h⟩ hin2
    unfold huff_New.b2
    refine br_d (fun g3 => ?_) (fun g3 => ?_)
    · have hil : i < ls.length := by omega
      have hps := hpos_take_sn hil (m + 1)
      refine h.lx (s := s) i rfl hil ?_
      refine br_b (fun g4 => ?_) (fun g4 => ?_)
      · have g4 : ls.getD i 0 = ((m + 1 : Nat) : Int) := by simpa using g4
        rw [if_pos g4] at hps
        refine nz_i ((h.toB cb).blk.ldL (o := 18) (n := s4) (hcC_18 _ _ _ _) ?_)
        have hln : (nats (hsyms ls m ++ hpos (ls.take i) (m + 1))).length ≤ 1099511627776 := by
          have h1 := hpos_length (ls.take i) (m + 1)
          have h2 := List.count_le_length (a := ((m + 1 : Nat) : Int)) (l := ls.take i)
          rw [List.length_take] at h2
          have h3 : ∀ n, (hsyms ls n).length ≤ n * ls.length := by
            intro n
            induction n with
            | zero => simp [hsyms]
            | succ n ih =>
              have h4 := hpos_length ls (n + 1)
              have h5 := List.count_le_length (a := ((n + 1 : Nat) : Int)) (l := ls)
              rw [hsyms, List.length_append, Nat.succ_mul]
              omega
          have h6 := h3 m
          have h7 : m * ls.length ≤ 16 * 288 := Nat.mul_le_mul (by omega) hlen
          rw [nats_length, List.length_append]
          omega
        refine h.pushI (s := s4) hln fun s5 w h => ?_
        refine nz_i ((h.toB cb).st (o := 18) (by rw [hcC_length]; decide) trivial fun w h => ?_)
        rw [hcC_set18] at h
        refine lt_as (wrap_i64 (by omega) (by omega)) ?_
        refine ⟨⟨rfl, rfl, rfl, rfl, rfl, rfl, rfl⟩, hin2 (i + 1) _ _ ⟨by omega, by omega, s5, ?_⟩ (by omega)⟩
        have e : nats (hsyms ls m ++ hpos (ls.take i) (m + 1)) ++ [(i : Int)] = nats (hsyms ls m ++ hpos (ls.take (i + 1)) (m + 1)) := by
          rw [hps]; simp [nats]
        rw [e] at h
        exact h.sub
      · have g4 : ¬ ls.getD i 0 = ((m + 1 : Nat) : Int) := by simpa using g4
        rw [if_neg g4, List.append_nil] at hps
        refine lt_as (wrap_i64 (by omega) (by omega)) ?_
        refine ⟨⟨rfl, rfl, rfl, rfl, rfl, rfl, rfl⟩, hin2 (i + 1) _ _ ⟨by omega, by omega, s4, ?_⟩ (by omega)⟩
        rw [hps]
        exact h
    · have : i = ls.length := by omega
      subst this
      rw [List.take_length] at h
      unfold huff_New.j7
      refine lt_as (wrap_i64 (by omega) (by omega)) ?_
      exact ⟨⟨rfl, rfl, rfl, rfl⟩, hin (m + 1 + 1) _ _ ⟨by omega, by omega, by omega, s4, h⟩ (by omega)⟩
  have : m = 15 := by omega
  subst this
  clear hin
  have hs3l := h.at1.len
  rw [ivs_length, nats_length] at hs3l
  have fin : hnew ls half = 0 → huff_New.j4 s (some ⟨cb, 0, none⟩) (fun v w' => K (.returned v) w') w := by
    intro hn0
    unfold huff_New.j4
    refine huff_Codes.c h (fun s2 w _ h => ⟨s2, _, rfl, ?_⟩) (fun w hne _ => absurd g hne)
    refine nz_i ((h.toB cb).st (o := 1) (by rw [hcC_length]; decide) trivial fun w h => ?_)
    rw [hcC_set1] at h
    exact hk cb w hn0 (hcA_i (s1 := s1) (s2 := s2) (s3 := s3) hok hkr hlen h.sub)
  have bad : hnew ls half = 2 → K (.returned (.tuple ⟨[.pointer none, .int .i64 2]⟩)) w := by
    intro hn2
    rw [hn2] at hk2
    exact hk2 w (by decide) h.sub
  have hnw : hnew ls half = if (hchk ls).1 = false ∧ (half && hhalf ls) = false then 2 else 0 := by unfold hnew; rw [if_neg (by rw [g]; decide)]
  unfold huff_New.j3
  refine br_b (fun g5 => ?_) (fun g5 => ?_)
  · have g5 : (hchk ls).1 = false := by simpa using g5
    refine br_b (fun g6 => ?_) (fun g6 => ?_)
    · subst g6
      refine nz_i ((h.toB cb).blk.ldL (o := 18) (n := s3) (hcC_18 _ _ _ _) ?_)
      refine br_b (fun g7 => ?_) (fun g7 => ?_)
      · have g7 : s3.len = 0 := by simpa using g7
        refine br_f1 (fin ?_)
        rw [hnw, if_neg]
        intro e
        have : hhalf ls = true := by unfold hhalf; rw [decide_eq_true_eq]; omega
        rw [this] at e
        exact absurd e.2 (by decide)
      have g7 : s3.len ≠ 0 := by simpa using g7
      refine nz_i ((h.toB cb).blk.ldL (o := 18) (n := s3) (hcC_18 _ _ _ _) ?_)
      refine br_b (fun g8 => ?_) (fun g8 => ?_)
      · have g8 : s3.len = 1 := by have : ((s3.len : Nat) : Int) = 1 := by simpa using g8
                                   omega
        refine nz_i ((h.toB cb).blk.cnt 1 rfl (by decide) ?_)
        refine br_b (fun g9 => bad ?_) (fun g9 => fin ?_)
        · have g9 : ¬ (hc ls 1 : Int) = 1 := by simpa using g9
          have hh : (true && hhalf ls) = false := by
            unfold hhalf
            rw [Bool.true_and, decide_eq_false_iff_not]
            omega
          rw [hnw, if_pos ⟨g5, hh⟩]
        · have g9 : (hc ls 1 : Int) = 1 := by simpa using g9
          rw [hnw, if_neg]
          intro e
          have : hhalf ls = true := by unfold hhalf; rw [decide_eq_true_eq]; omega
          rw [this] at e
          exact absurd e.2 (by decide)
      · have g8 : ¬ s3.len = 1 := fun e => by rw [e] at g8; exact absurd g8 (by decide)
        refine br_t1 (bad ?_)
        have hh : (true && hhalf ls) = false := by
          unfold hhalf
          rw [Bool.true_and, decide_eq_false_iff_not]
          omega
        rw [hnw, if_pos ⟨g5, hh⟩]
    · subst g6
      exact br_t1 (bad (by rw [hnw, if_pos ⟨g5, rfl⟩]))
  · have g5 : (hchk ls).1 = true := by simpa using g5
    exact fin (by rw [hnw, if_neg (fun e => by rw [g5] at e; exact absurd e.1 (by decide))])

theorem huff_Code_longest.c {cb : Nat} {K : Ending → World → Prop} (h : St F0 w0 w ps) [PkF hcA cb ps ls rest]
    (hk : ∀ w', St F0 w0 w' ps → K (.returned (.int .i64 (hlong ls 15))) w') : Calls Try.prog 53 ⟨[.pointer (some ⟨cb, 0, none⟩)]⟩ w K := by
  refine ret_k (huff_Code_longest.ok _ _ _ ?_)
  unfold huff_Code_longest
  obtain ⟨h1, h2, h3, s1, s2, s3, hb, r1, r2, r3⟩ := hcA_get cb h
  have l3 := r3.1
  rw [ivs_length, nats_length] at l3
  have hlast := hsyms_last (l := ls) 15
  refine nz_i (hb.ldL (o := 18) (n := s3) (hcC_18 _ _ _ _) ?_)
  refine br_b (fun g => ?_) (fun g => ?_)
  · have g : s3.len = 0 := by simpa using g
    rw [if_pos (List.eq_nil_of_length_eq_zero (by omega))] at hlast
    rw [hlast] at hk
    exact hk w h
  have g : s3.len ≠ 0 := by simpa using g
  have hne : 0 < (hsyms ls 15).length := by omega
  rw [if_neg (fun e => by rw [e] at hne; exact absurd hne (by decide))] at hlast
  clear hb r1 r2 r3 l3 g
  refine h.drewK fun w h => ?_
  obtain ⟨h1, h2, h3, s1, s2, s3, hb, r1, r2, r3⟩ := hcA_get cb h
  have l3 := r3.1
  rw [ivs_length, nats_length] at l3
  have hsle := hsyms_le ls 15
  have hm : (hsyms ls 15).getD ((hsyms ls 15).length - 1) 0 ∈ hsyms ls 15 := by
    rw [List.getD_eq_getElem?_getD, List.getElem?_eq_getElem (show (hsyms ls 15).length - 1 < (hsyms ls 15).length by omega)]
    exact List.getElem_mem _
  obtain ⟨m1, m2⟩ := hsyms_mem 15 _ hm
  refine nz_i (hb.ldL (o := 0) (n := s1) rfl ?_)
  refine nz_i (hb.ldL (o := 18) (n := s3) (hcC_18 _ _ _ _) ?_)
  refine nz_i (hb.ldL (o := 18) (n := s3) (hcC_18 _ _ _ _) ?_)
  refine lt_as (wrap_i64 (by omega) (by omega)) ?_
  refine r3.at ((hsyms ls 15).length - 1) (by omega) (by rw [nats_length]; omega) ?_
  rw [nats_getD]
  refine r1.at _ rfl m1 ?_
  have e : ls.getD ((hsyms ls 15).getD ((hsyms ls 15).length - 1) 0) 0 = (hlong ls 15 : Int) := by omega
  rw [e]
  exact hk w h

/-! ### reading -/

/-- the program's reader of bits: the number, how many bytes, the place -/
def bitA (rb : Nat) (x : Nat × Nat × Nat) : As := rrA rb x.1 x.2.1 x.2.2

theorem bits_Reader_Get.one {rb V N p : Nat} {K : Ending → World → Prop} (h : St F0 w0 w (bitA rb (V, N, p) :: ps)) (hN : N ≤ 137438953472) (hp : p ≤ 8 * N)
    (hk : p < 8 * N → ∀ w', St F0 w0 w' (bitA rb (V, N, p + 1) :: ps) → K (.returned (.tuple ⟨[.int .i64 ((bt V p).toNat : Nat), .bool true]⟩)) w')
    (hk' : ¬ p < 8 * N → ∀ w', St F0 w0 w' (bitA rb (V, N, p) :: ps) → K (.returned (.tuple ⟨[.int .i64 0, .bool false]⟩)) w') :
    Calls Try.prog 52 ⟨[.pointer (some ⟨rb, 0, none⟩), .int .i64 1]⟩ w K := by
  refine bits_Reader_Get.c (V := V) (N := N) (at' := p) h hN (by omega) (fun g w h => ?_) (fun g w h => ?_)
  · have g : p < 8 * N := by simp [getOk] at g; omega
    have e := bt_toNat V p
    have e2 : ((V / 2 ^ p % 2 ^ (1 : Int).toNat : Nat) : Int) = (((bt V p).toNat : Nat) : Int) := by
      rw [e, show (1 : Int).toNat = 1 by decide, Nat.pow_one]
      simp
    rw [e2]
    exact hk g w h
  · have g : ¬ p < 8 * N := by simp [getOk] at g; omega
    exact hk' g w h

theorem bitsOf_get {V N p : Nat} : (bitsOf (V : Int) N)[p]? = if p < N then some (bt V p) else none := by
  unfold bitsOf
  rw [List.getElem?_map]
  split
  · rename_i h; rw [List.getElem?_range h]; rfl
  · rename_i h; rw [List.getElem?_eq_none (by simpa using h)]; rfl

theorem or1 {v : Nat} (x : Bool) (hv : v < 1000000000) : orV .i64 (2 * (v : Int)) ((x.toNat : Nat) : Int) = ((2 * v + x.toNat : Nat) : Int) := by
  have hx : x.toNat < 2 := by cases x <;> decide
  have e := orV_add' .i64 (a := x.toNat) (b := v) (t := 1) hx (by show x.toNat + v * 2 ^ 1 < 2 ^ 63; omega)
  rw [show (2 : Int) ^ 1 = 2 by decide] at e
  rw [Int.mul_comm, e]
  omega

theorem huff_Code_Next.c {cb rb V N p : Nat} {K : Ending → World → Prop} (h : St F0 w0 w (bitA rb (V, N, p) :: ps)) [PkF hcA cb ps ls rest] (hN : N ≤ 137438953472) (hp : p ≤ 8 * N)
    (hk : ∀ w', (hnext ls (bitsOf V (8 * N)) p).2.2 ≤ 8 * N → St F0 w0 w' (bitA rb (V, N, (hnext ls (bitsOf V (8 * N)) p).2.2) :: ps) → K (.returned (.tuple ⟨[.int .i64 (hnext ls (bitsOf V (8 * N)) p).1, .int .i64 (hnext ls (bitsOf V (8 * N)) p).2.1]⟩)) w') :
    Calls Try.prog 23 ⟨[.pointer (some ⟨cb, 0, none⟩), .pointer (some ⟨rb, 0, none⟩)]⟩ w K := by
  refine ret_k (huff_Code_Next.ok _ _ _ _ ?_)
  unfold huff_Code_Next huff_Code_Next.j1 huff_Code_Next.j2 huff_Code_Next.j4
  obtain ⟨hok, hkr, hlen, _⟩ := hcA_get cb h
  have hlg := hlong_le ls 15 (by decide)
  refine loop4 (fun (a : Nat × Nat × Nat) (t6 t7 t8 t10 : Int) w' => t6 = a.2.1 ∧ t7 = ((hf ls (a.1 - 1) + hc ls (a.1 - 1) : Nat) : Int) ∧ t8 = ((hsyms ls (a.1 - 1)).length : Int) ∧ t10 = a.1 ∧ 1 ≤ a.1 ∧ a.1 ≤ hlong ls 15 + 1 ∧ hf ls (a.1 - 1) + hc ls (a.1 - 1) ≤ a.2.1 ∧ a.2.1 < 2 ^ (a.1 - 1) ∧ a.2.2 ≤ 8 * N ∧
    hdec ls (bitsOf V (8 * N)) (hlong ls 15 + 1 - a.1) a.1 a.2.1 a.2.2 = hnext ls (bitsOf V (8 * N)) p ∧ St F0 w0 w' (bitA rb (V, N, a.2.2) :: ps)) (fun a => 17 - a.1) (1, 0, p) ⟨rfl, by simp [hf, hc], by simp [hsyms], rfl, by simp, by simp only; omega, by simp [hf, hc], by simp, hp, by simp [hnext], h⟩ ?_
  clear h
  rintro ⟨n, v, q⟩ t6 t7 t8 t10 w I μ ⟨rfl, rfl, rfl, rfl, hn1, hn, hge, hv, hq, hd, h⟩ hin
  simp only at hn1 hn hge hv hq hd h hin ⊢
  obtain ⟨m, rfl⟩ : ∃ m, n = m + 1 := ⟨n - 1, by omega⟩
  rw [Nat.add_sub_cancel] at hge hv ⊢
  unfold huff_Code_Next.b1
  refine huff_Code_longest.c h fun w h => ⟨_, rfl, ?_⟩
  refine br_d (fun g => ?_) (fun g => ?_)
  · have hm15 : m + 1 ≤ 15 := by omega
    have hv2 : v < 32768 := Nat.lt_of_lt_of_le hv (Nat.le_trans (Nat.pow_le_pow_right (by decide) (show m ≤ 15 by omega)) (by decide))
    obtain ⟨f, hf1⟩ : ∃ f, hlong ls 15 + 1 - (m + 1) = f + 1 := ⟨hlong ls 15 - (m + 1), by omega⟩
    rw [hf1, hdec, bitsOf_get] at hd
    refine bits_Reader_Get.one h hN hq (fun gk w h => ⟨_, _, rfl, ?_⟩) (fun gk w h => ⟨_, _, rfl, ?_⟩)
    · rw [if_pos gk] at hd
      simp only at hd
      refine br_f1 ⟨by decide, lt_as (shl1 (by omega)) ?_⟩
      refine lt_as (or1 _ (by omega)) ?_
      have hb1 := hf_mono_le ls hok hkr (n := m) (by omega)
      have hb2 := hf_mono_le ls hok hkr (n := m + 1) hm15
      have hx : (bt V q).toNat < 2 := by cases bt V q <;> decide
      generalize (bt V q).toNat = x at hd hx ⊢
      have hfe : hf ls (m + 1) = 2 * (hf ls m + hc ls m) := rfl
      refine ⟨by decide, lt_as (shl1 (by omega)) ?_⟩
      refine lt_as (wrap_i64 (by omega) (by omega)) ?_
      obtain ⟨_, _, _, s1, s2, s3, hb, r1, r2, r3⟩ := hcA_get cb h
      have l3 := r3.1
      rw [ivs_length, nats_length] at l3
      have hsy := hsyms_at ls 15 (m + 1) (2 * v + x - hf ls (m + 1)) (by omega) hm15
      rw [Nat.add_sub_cancel] at hsy
      have hcn : hc ls (m + 1) = ls.count ((m + 1 : Nat) : Int) := by unfold hc; rw [if_neg (by omega)]
      have hpl := hpos_length ls (m + 1)
      refine nz_i (hb.cnt (m + 1) rfl (by omega) ?_)
      have hsl : (hsyms ls m).length ≤ 1000000 := by
        have h3 : ∀ n, (hsyms ls n).length ≤ n * ls.length := by
          intro n
          induction n with
          | zero => simp [hsyms]
          | succ n ih =>
            have h4 := hpos_length ls (n + 1)
            have h5 := List.count_le_length (a := ((n + 1 : Nat) : Int)) (l := ls)
            rw [hsyms, List.length_append, Nat.succ_mul]
            omega
        have h6 := h3 m
        have h7 : m * ls.length ≤ 16 * 288 := Nat.mul_le_mul (by omega) hlen
        omega
      refine br_d (fun g2 => ?_) (fun g2 => ?_)
      · rw [if_pos (by omega)] at hd
        refine nz_i (hb.ldL (o := 18) (n := s3) (hcC_18 _ _ _ _) ?_)
        refine lt_as (wrap_i64 (by omega) (by omega)) ?_
        have hsy := hsy (by omega)
        have hlt : (hsyms ls m).length + (2 * v + x - hf ls (m + 1)) < (hsyms ls 15).length := by
          rcases Nat.lt_or_ge ((hsyms ls m).length + (2 * v + x - hf ls (m + 1))) (hsyms ls 15).length with h1 | h1
          · exact h1
          · rw [List.getElem?_eq_none h1, List.getElem?_eq_getElem (show 2 * v + x - hf ls (m + 1) < (hpos ls (m + 1)).length by omega)] at hsy
            cases hsy
        refine r3.at ((hsyms ls m).length + (2 * v + x - hf ls (m + 1))) (by omega) (by rw [nats_length]; exact hlt) ?_
        rw [nats_getD, List.getD_eq_getElem?_getD, hsy, ← List.getD_eq_getElem?_getD]
        rw [← hd] at hk
        exact hk w (by simp only; omega) h
      · rw [if_neg (by omega)] at hd
        refine nz_i (hb.cnt (m + 1) rfl (by omega) ?_)
        have hcl := hc_le ls (m + 1)
        refine lt_as (wrap_i64 (by omega) (by omega)) ?_
        refine nz_i (hb.cnt (m + 1) rfl (by omega) ?_)
        refine lt_as (wrap_i64 (by omega) (by omega)) ?_
        refine lt_as (wrap_i64 (by omega) (by omega)) ?_
        refine ⟨⟨rfl, rfl⟩, hin (m + 1 + 1, 2 * v + x, q + 1) _ _ _ _ _ ⟨rfl, ?_, ?_, by simp, by simp, by simp only; omega, ?_, ?_, by simp only; omega, ?_, h⟩ (by simp only; omega)⟩
        · simp only [Nat.add_sub_cancel]; omega
        · simp only [Nat.add_sub_cancel]
          rw [hsyms, List.length_append]; omega
        · simp only [Nat.add_sub_cancel]; omega
        · simp only [Nat.add_sub_cancel]
          rw [Nat.pow_succ]; omega
        · simp only
          rw [show hlong ls 15 + 1 - (m + 1 + 1) = f by omega]
          exact hd
    · rw [if_neg gk] at hd
      simp only at hd
      refine br_t1 ?_
      rw [← hd] at hk
      exact hk w hq h
  · have e : hlong ls 15 + 1 - (m + 1) = 0 := by omega
    rw [e, hdec] at hd
    unfold huff_Code_Next.j3
    rw [← hd] at hk
    exact hk w hq h

/-! ### writing -/

theorem cbits_eq (c n : Nat) : (bitsOf (c : Int) n).reverse = cbits c n := by
  apply List.ext_getElem
  · rw [List.length_reverse, bitsOf_length, cbits_length]
  · intro i h1 h2
    rw [cbits_length] at h2
    rw [List.getElem_reverse]
    simp only [bitsOf, cbits, List.getElem_map, List.getElem_range, List.length_map, List.length_range]
    exact bt_nat c _

/-- what Put writes of a symbol -/
def hput (ls : List Int) (sym : Int) : List Bool := if 0 ≤ sym ∧ sym < ls.length ∧ ls.getD sym.toNat 0 ≠ 0 then cbits (hcode ls sym.toNat) (ls.getD sym.toNat 0).toNat else []
def hputs (ls : List Int) (sym : Int) : Bool := decide (0 ≤ sym ∧ sym < ls.length ∧ ls.getD sym.toNat 0 ≠ 0)

theorem huff_Code_Put.c {cb wb : Nat} {l : List Bool} {sym : Int} {K : Ending → World → Prop} (h : St F0 w0 w (wrL wb l :: ps)) [PkF hcA cb ps ls rest] (hL : l.length ≤ 549755813888)
    (hk : ∀ w', St F0 w0 w' (wrL wb (l ++ hput ls sym) :: ps) → K (.returned (.bool (hputs ls sym))) w') :
    Calls Try.prog 19 ⟨[.pointer (some ⟨cb, 0, none⟩), .pointer (some ⟨wb, 0, none⟩), .int .i64 sym]⟩ w K := by
  refine ret_k (huff_Code_Put.ok _ _ _ _ _ ?_)
  unfold huff_Code_Put
  obtain ⟨hok, hkr, hlen, s1, s2, s3, hb, r1, r2, r3⟩ := hcA_get cb h
  have l1 := r1.1
  rw [ivs_length] at l1
  have bad : ¬ (0 ≤ sym ∧ sym < ls.length ∧ ls.getD sym.toNat 0 ≠ 0) → K (.returned (.bool false)) w := by
    intro hn
    unfold hput hputs at hk
    rw [if_neg hn, List.append_nil, decide_eq_false hn] at hk
    exact hk w h
  refine br_d (fun g => bad (by omega)) (fun g => ?_)
  refine nz_i (hb.ldL (o := 0) (n := s1) rfl ?_)
  refine br_d (fun g2 => bad (by omega)) (fun g2 => ?_)
  have hin : sym.toNat < ls.length := by omega
  refine nz_i (hb.ldL (o := 0) (n := s1) rfl ?_)
  refine r1.at sym.toNat (by omega) hin ?_
  refine br_b (fun g3 => bad (fun e => e.2.2 (by simpa using g3))) (fun g3 => ?_)
  have g3 : ls.getD sym.toNat 0 ≠ 0 := by simpa using g3
  have hx := hok _ (mem_getD hin)
  obtain ⟨m, hm⟩ : ∃ m : Nat, ls.getD sym.toNat 0 = m := ⟨(ls.getD sym.toNat 0).toNat, by omega⟩
  unfold hput hputs at hk
  have hcond : 0 ≤ sym ∧ sym < ls.length ∧ ls.getD sym.toNat 0 ≠ 0 := ⟨by omega, by omega, g3⟩
  rw [if_pos hcond, decide_eq_true hcond, hm] at hk
  clear hb r1 r2 r3 l1
  refine h.drewK fun w h => ?_
  obtain ⟨_, _, _, s1, s2, s3, hb, r1, r2, r3⟩ := hcA_get cb h
  refine nz_i (hb.ldL (o := 1) (n := s2) rfl ?_)
  refine r2.at sym.toNat (by omega) (by rw [hcodes_length]; exact hin) ?_
  rw [hcodes_getD _ hin]
  refine nz_i (hb.ldL (o := 0) (n := s1) rfl ?_)
  refine r1.at sym.toNat (by omega) hin ?_
  rw [hm]
  refine bits_Writer_Code.c h hL fun w h => ⟨rfl, ?_⟩
  have e : (pb (hcode ls sym.toNat : Int) (m : Int)).reverse = cbits (hcode ls sym.toNat) m := by
    unfold pb
    rw [if_pos (by omega), Int.toNat_natCast, cbits_eq]
  rw [e] at h
  rw [Int.toNat_natCast] at hk
  exact hk w h

/-- the bits of symbols, each so often, up to a place -/
def costN (ls cs : List Int) : Nat → Int
  | 0 => 0
  | i + 1 => costN ls cs i + cs.getD i 0 * ls.getD i 0

def smallC (cs : List Int) : Prop := ∀ x ∈ cs, 0 ≤ x ∧ x ≤ 100000000

theorem costN_le {ls cs : List Int} (ho : okL ls) (hc : smallC cs) : ∀ i, i ≤ ls.length → i ≤ cs.length → 0 ≤ costN ls cs i ∧ costN ls cs i ≤ 1500000000 * i := by
  intro i
  induction i with
  | zero => intro _ _; simp [costN]
  | succ i ih =>
    intro h1 h2
    have h3 := ih (by omega) (by omega)
    have h4 := ho _ (mem_getD (show i < ls.length by omega))
    have h5 := hc _ (mem_getD (show i < cs.length by omega))
    have h6 : cs.getD i 0 * ls.getD i 0 ≤ 100000000 * 15 := Int.mul_le_mul h5.2 h4.2 h4.1 (by decide)
    have h7 : 0 ≤ cs.getD i 0 * ls.getD i 0 := Int.mul_nonneg h5.1 h4.1
    rw [costN]
    omega

theorem huff_Code_Cost.c {cb : Nat} {s : Sl} {cs : List Int} {K : Ending → World → Prop} (h : St F0 w0 w ps) [PkF hcA cb ps ls rest] [Rdb F0 w0 s ps 1 (ivs .i64 cs)] (hc : smallC cs)
    (hk : ∀ w', St F0 w0 w' ps → K (.returned (.int .i64 (costN ls cs (min ls.length cs.length)))) w') :
    Calls Try.prog 17 ⟨[.pointer (some ⟨cb, 0, none⟩), .slice s.a s.len s.cap]⟩ w K := by
  refine ret_k (huff_Code_Cost.ok _ _ _ _ ?_)
  unfold huff_Code_Cost huff_Code_Cost.j1
  obtain ⟨hok, hkr, hlen, s1, s2, s3, hb, r1, r2, r3⟩ := hcA_get cb h
  have l1 := r1.1
  have lc := (h.rdb s).1
  rw [ivs_length] at l1 lc
  refine nz_i (hb.ldL (o := 0) (n := s1) rfl ?_)
  refine lt_as (show (if ((s1.len : Nat) : Int) < ((s.len : Nat) : Int) then ((s1.len : Nat) : Int) else ((s.len : Nat) : Int)) = ((min ls.length cs.length : Nat) : Int) by split <;> omega) ?_
  generalize hN : min ls.length cs.length = N at hk
  have hN1 : N ≤ ls.length := by omega
  have hN2 : N ≤ cs.length := by omega
  clear hb r1 r2 r3 l1
  unfold huff_Code_Cost.j3
  refine loop2 (fun (i : Nat) (o i' : Int) w' => i' = i ∧ i ≤ N ∧ o = costN ls cs i ∧ St F0 w0 w' ps) (fun i => N - i) 0 ⟨rfl, by omega, rfl, h⟩ ?_
  clear h
  rintro i o i' w I μ ⟨rfl, hi, rfl, h⟩ hin
  unfold huff_Code_Cost.b1
  refine br_d (fun g => ?_) (fun g => ?_)
  · have h3 := costN_le hok hc i (by omega) (by omega)
    have h4 := costN_le hok hc (i + 1) (by omega) (by omega)
    have h8 := hok _ (mem_getD (show i < ls.length by omega))
    have h5 := hc _ (mem_getD (show i < cs.length by omega))
    have h6 : cs.getD i 0 * ls.getD i 0 ≤ 100000000 * 15 := Int.mul_le_mul h5.2 h8.2 h8.1 (by decide)
    have h7 : 0 ≤ cs.getD i 0 * ls.getD i 0 := Int.mul_nonneg h5.1 h8.1
    refine h.drewK fun w h => ?_
    obtain ⟨_, _, _, s1, s2, s3, hb, r1, r2, r3⟩ := hcA_get cb h
    refine h.lx (s := s) i rfl (by omega) ?_
    refine nz_i (hb.ldL (o := 0) (n := s1) rfl ?_)
    refine r1.at i rfl (by omega) ?_
    refine lt_as (wrap_i64 (by omega) (by omega)) ?_
    refine lt_as (wrap_i64 (by omega) (by omega)) ?_
    refine lt_as (wrap_i64 (by omega) (by omega)) ?_
    exact ⟨⟨rfl, rfl, rfl⟩, hin (i + 1) _ _ _ ⟨by omega, by omega, rfl, h⟩ (by omega)⟩
  · have : i = N := by omega
    subst this
    exact hk w h

end

end Go.Proofs.Ythdmmmfgjmmelaa
