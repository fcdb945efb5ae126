/- Huffman codes: the document's texts. Own work. -/
import Derived.Test.YtkajimndclhgaaaHuffB
import Derived.Test.YtkajimndclhgaaaBitE
import Derived.Test.YtkajimndclhgaaaGHuffR
namespace Go.Proofs.Ytkajimndclhgaaa
open Go Go.Proofs
set_option linter.unusedVariables false
set_option linter.unusedSimpArgs false
attribute [local irreducible] apK cpK mkK

section
variable {F0 : List Nat} {w0 w : World} {ps rest : List As} {ls : List Int}

theorem kr_sn {i : Nat} (h : i < ls.length) : kr (ls.take (i + 1)) = kr (ls.take i) + if 0 < ls.getD i 0 then 2 ^ (15 - (ls.getD i 0).toNat) else 0 := by rw [take_sn h, kr_snoc]

theorem troveref5_Check.c {s : Sl} {K : Ending → World → Prop} (h : St F0 w0 w ps) [Rdb F0 w0 s ps 1 (ivs .i64 ls)]
    (hk : ∀ w', St F0 w0 w' ps → K (.returned (.tuple ⟨[.bool (hchk ls).1, .int .i64 (hchk ls).2]⟩)) w') : Calls Try.prog 96 ⟨[.slice s.a s.len s.cap]⟩ w K := by
  have hl := (h.rdb s).1
  rw [ivs_length] at hl
  refine ret_k (troveref5_Check.ok _ _ _ ?_)
  unfold troveref5_Check troveref5_Check.j1
  unfold hchk at hk
  refine br_d (fun g => ?_) (fun g => ?_)
  · rw [if_pos (by omega)] at hk
    exact hk w h
  rw [if_neg (by omega)] at hk
  unfold troveref5_Check.j2 troveref5_Check.j4
  have hkl := kr_le ls
  refine loop2 (fun (i : Nat) (r i' : Int) w' => i' = i ∧ i ≤ ls.length ∧ okL (ls.take i) ∧ r = (kr (ls.take i) : Int) ∧ St F0 w0 w' ps) (fun i => ls.length - i) 0 ⟨rfl, by omega, fun x hx => by simp at hx, by simp [kr], h⟩ ?_
  clear h
  rintro i r i' w I μ ⟨rfl, hi, hok, rfl, h⟩ hin
  unfold troveref5_Check.b1
  have hkt := kr_take ls i
  refine br_d (fun g2 => ?_) (fun g2 => ?_)
  · have hil : i < ls.length := by omega
    have bad : ¬ (0 ≤ ls.getD i 0 ∧ ls.getD i 0 ≤ 15) → K (.returned (.tuple ⟨[.bool false, .int .i64 1]⟩)) w := fun hn => by
      rw [if_pos (fun e => hn (e _ (mem_getD hil)))] at hk
      exact hk w h
    have hks := kr_sn hil
    have hkt2 := kr_take ls (i + 1)
    refine h.lx i rfl hil ?_
    refine br_d (fun g3 => bad (by omega)) (fun g3 => ?_)
    refine h.lx i rfl hil ?_
    refine br_d (fun g4 => bad (by omega)) (fun g4 => ?_)
    have okn : okL (ls.take (i + 1)) := by
      rw [take_sn hil]
      intro x hx
      rcases List.mem_append.1 hx with hx | hx
      · exact hok x hx
      · rw [List.mem_singleton.1 hx]; omega
    refine h.lx i rfl hil ?_
    refine br_d (fun g5 => ?_) (fun g5 => ?_)
    · refine h.lx i rfl hil ?_
      rw [if_pos (by omega)] at hks
      obtain ⟨m, hm⟩ : ∃ m : Nat, ls.getD i 0 = m := ⟨(ls.getD i 0).toNat, by omega⟩
      rw [hm] at hks g4 g5 ⊢
      rw [Int.toNat_natCast] at hks
      refine lt_as (wrap_i64 (by omega) (by omega)) ?_
      refine lt_as (show IntKind.u64.wrap (15 - (m : Int)) = ((15 - m : Nat) : Int) by rw [wrap_u64]; omega) ?_
      refine ⟨by omega, lt_as (shl_room (c := 1) (by decide) (show 15 - m ≤ 15 by omega)) ?_⟩
      rw [Nat.one_mul]
      refine lt_as (wrap_i64 (by omega) (by omega)) ?_
      refine lt_as (wrap_i64 (by omega) (by omega)) ?_
      exact ⟨rfl, hin (i + 1) _ _ _ ⟨by omega, by omega, okn, by omega, h⟩ (by omega)⟩
    · rw [if_neg (by omega)] at hks
      refine lt_as (wrap_i64 (by omega) (by omega)) ?_
      exact ⟨rfl, hin (i + 1) _ _ _ ⟨by omega, by omega, okn, by omega, h⟩ (by omega)⟩
  · have : i = ls.length := by omega
    subst this
    rw [List.take_length] at hok
    rw [List.take_length]
    rw [if_neg (fun e => e hok)] at hk
    unfold troveref5_Check.j3
    refine br_d (fun g4 => ?_) (fun g4 => ?_)
    · rw [if_pos (by omega)] at hk
      exact hk w h
    · rw [if_neg (by omega)] at hk
      have e : ((kr ls : Int) == 32768) = decide (kr ls = 32768) := by
        apply Bool.eq_iff_iff.2
        rw [beq_iff_eq, decide_eq_true_eq]
        omega
      rw [e]
      exact hk w h

def ocL (l : List Int) (n i : Nat) : List Int := mapR l.length fun j => if 0 < l.getD j 0 ∧ (l.getD j 0 < n ∨ (l.getD j 0 = n ∧ j < i)) then (hcode l j : Int) else 0

theorem troveref5_Codes.c {s : Sl} {K : Ending → World → Prop} (h : St F0 w0 w ps) [Rdb F0 w0 s ps 1 (ivs .i64 ls)]
    (hk : ∀ s' w', (hchk ls).2 = 0 → St F0 w0 w' (ownA 1 s' (ivs .i64 (hcodes ls)) :: ps) → K (.returned (.tuple ⟨[.slice s'.a s'.len s'.cap, .int .i64 0]⟩)) w')
    (hk2 : ∀ w', (hchk ls).2 ≠ 0 → St F0 w0 w' ps → K (.returned (.tuple ⟨[.slice none 0 0, .int .i64 (hchk ls).2]⟩)) w') : Calls Try.prog 98 ⟨[.slice s.a s.len s.cap]⟩ w K := by
  have hl := (h.rdb s).1
  rw [ivs_length] at hl
  refine ret_k (troveref5_Codes.ok _ _ _ ?_)
  unfold troveref5_Codes troveref5_Codes.j1
  refine troveref5_Check.c h fun w h => ⟨_, _, rfl, ?_⟩
  refine br_b (fun g => ?_) (fun g => ?_)
  · exact hk2 w (by simpa using g) h
  have g : (hchk ls).2 = 0 := by simpa using g
  obtain ⟨hok, hkr, hlen, _⟩ := hchk_ok g
  unfold troveref5_Codes.j2
  refine h.makeI (n := ls.length) (by omega) (by omega) (by omega) fun o w ho1 ho2 h => ?_
  unfold troveref5_Codes.j3 troveref5_Codes.j5
  have oc0 : List.replicate ls.length 0 = ocL ls 1 0 := by
    rw [rep_mapR]
    exact mapR_congr fun i hi => by rw [if_neg (by omega)]
  rw [oc0] at h
  refine loop2 (fun (n : Nat) (c n' : Int) w' => n' = n ∧ 1 ≤ n ∧ n ≤ 16 ∧ c = (hf ls n : Int) ∧ St F0 w0 w' (ownA 1 o (ivs .i64 (ocL ls n 0)) :: ps)) (fun n => 16 - n) 1 ⟨rfl, by omega, by omega, rfl, h⟩ ?_
  clear h
  rintro n c n' w I μ ⟨rfl, hn1, hn, rfl, h⟩ hin
  unfold troveref5_Codes.b1
  refine br_d (fun g3 => ?_) (fun g3 => ?_)
  · have hb := hf_mono_le ls hok hkr (n := n) (by omega)
    unfold troveref5_Codes.j6 troveref5_Codes.j9
    refine loop2 (fun (i : Nat) (c i' : Int) w' => i' = i ∧ i ≤ ls.length ∧ c = ((hf ls n + hc (ls.take i) n : Nat) : Int) ∧ St F0 w0 w' (ownA 1 o (ivs .i64 (ocL ls n i)) :: ps)) (fun i => ls.length - i) 0 ⟨rfl, by omega, by rw [List.take_zero]; simp [hc], h⟩ ?_
    clear h
    rintro i c i' w I2 μ2 ⟨rfl, hi, rfl, h⟩ hin2
    unfold troveref5_Codes.b2
    refine br_d (fun g4 => ?_) (fun g4 => ?_)
    · have hil : i < ls.length := by omega
      have hcs : hc (ls.take (i + 1)) n = hc (ls.take i) n + if 0 < n ∧ ls.getD i 0 = n then 1 else 0 := by rw [take_sn hil, hc_snoc]
      have hcl := hc_le (ls.take i) n
      rw [List.length_take] at hcl
      refine h.lx (s := s) i rfl hil ?_
      refine br_b (fun g5 => ?_) (fun g5 => ?_)
      · have g5 : ls.getD i 0 = n := by simpa using g5
        rw [if_pos ⟨by omega, g5⟩] at hcs
        have hce := hcode_eq g5 (by omega)
        refine h.sx (s := o) i rfl (by unfold ocL; rw [mapR_length]; exact hil) fun w h => ?_
        refine lt_as (wrap_i64 (by omega) (by omega)) ?_
        refine lt_as (wrap_i64 (by omega) (by omega)) ?_
        have e : (ocL ls n i).set i ((hf ls n + hc (ls.take i) n : Nat) : Int) = ocL ls n (i + 1) := by
          unfold ocL
          rw [set_mapR]
          refine mapR_congr fun j hj => ?_
          by_cases h1 : j = i
          · rw [if_pos h1, h1, if_pos ⟨by omega, Or.inr ⟨g5, by omega⟩⟩, hce]
          · rw [if_neg h1]
            by_cases h2 : 0 < ls.getD j 0 ∧ (ls.getD j 0 < n ∨ (ls.getD j 0 = n ∧ j < i))
            · rw [if_pos h2, if_pos (by omega)]
            · rw [if_neg h2, if_neg (by omega)]
        rw [e] at h
        exact ⟨⟨rfl, rfl, rfl⟩, hin2 (i + 1) _ _ _ ⟨by omega, by omega, by omega, h⟩ (by omega)⟩
      · have g5 : ¬ ls.getD i 0 = n := by simpa using g5
        rw [if_neg (fun e => g5 e.2)] at hcs
        refine lt_as (wrap_i64 (by omega) (by omega)) ?_
        have e : ocL ls n i = ocL ls n (i + 1) := by
          refine mapR_congr fun j hj => ?_
          by_cases h1 : j = i
          · rw [h1]
            by_cases h2 : 0 < ls.getD i 0 ∧ ls.getD i 0 < n
            · rw [if_pos ⟨h2.1, Or.inl h2.2⟩, if_pos ⟨h2.1, Or.inl h2.2⟩]
            · rw [if_neg (by omega), if_neg (by omega)]
          · by_cases h2 : 0 < ls.getD j 0 ∧ (ls.getD j 0 < n ∨ (ls.getD j 0 = n ∧ j < i))
            · rw [if_pos h2, if_pos (by omega)]
            · rw [if_neg h2, if_neg (by omega)]
        rw [e] at h
        exact ⟨⟨rfl, rfl, rfl⟩, hin2 (i + 1) _ _ _ ⟨by omega, by omega, by omega, h⟩ (by omega)⟩
    · have : i = ls.length := by omega
      subst this
      rw [List.take_length]
      unfold troveref5_Codes.j8
      refine ⟨by decide, lt_as (shl1 (by omega)) ?_⟩
      unfold troveref5_Codes.j7
      refine lt_as (wrap_i64 (by omega) (by omega)) ?_
      have e : ocL ls n ls.length = ocL ls (n + 1) 0 := by
        refine mapR_congr fun j hj => ?_
        by_cases h2 : 0 < ls.getD j 0 ∧ (ls.getD j 0 < n ∨ (ls.getD j 0 = n ∧ j < ls.length))
        · rw [if_pos h2, if_pos (by omega)]
        · rw [if_neg h2, if_neg (by omega)]
      rw [e] at h
      have e2 : hf ls (n + 1) = 2 * (hf ls n + hc ls n) := rfl
      exact ⟨⟨rfl, rfl⟩, hin (n + 1) _ _ _ ⟨by omega, by omega, by omega, by omega, h⟩ (by omega)⟩
  · have : n = 16 := by omega
    subst this
    have e : ocL ls 16 0 = hcodes ls := by
      show mapR _ _ = mapR _ fun i => (hcode ls i : Int)
      refine mapR_congr fun j hj => ?_
      have hx := hok _ (mem_getD hj)
      by_cases h2 : 0 < ls.getD j 0
      · rw [if_pos ⟨h2, Or.inl (by omega)⟩]
      · rw [if_neg (by omega), hcode_no (by omega)]; rfl
    rw [e] at h
    unfold troveref5_Codes.j4
    exact hk o w g h

/-! ### a code -/

/-- at cb stands the document's code of the lengths ls -/
def hrA (cb : Nat) (ls : List Int) : As := exA fun s : Sl × Sl => ifA (okL ls ∧ kr ls ≤ 32768 ∧ ls.length ≤ 288) <| andA (blkA cb [.slice s.1.a s.1.len s.1.cap, .slice s.2.a s.2.len s.2.cap]) <| andA (ownA 1 s.1 (ivs .i64 ls)) (ownA 1 s.2 (ivs .i64 (hcodes ls)))

theorem hrA_get (cb : Nat) (h : St F0 w0 w ps) [PkF hrA cb ps ls rest] : okL ls ∧ kr ls ≤ 32768 ∧ ls.length ≤ 288 ∧ ∃ s1 s2 : Sl, Blk w cb [.slice s1.a s1.len s1.cap, .slice s2.a s2.len s2.cap] ∧ Rd w 1 s1 (ivs .i64 ls) ∧ Rd w 1 s2 (ivs .i64 (hcodes ls)) := by
  obtain ⟨s, h⟩ := (h.toF hrA cb).exE
  obtain ⟨⟨h1, h2, h3⟩, h⟩ := h.ifE
  have h := h.split
  have g := h.drop.split
  exact ⟨h1, h2, h3, s.1, s.2, h.blk, g.ord, g.drop.ord⟩

theorem hrA_i {cb : Nat} {s1 s2 : Sl} (h1 : okL ls) (h2 : kr ls ≤ 32768) (h3 : ls.length ≤ 288) (h : St F0 w0 w (blkA cb [.slice s1.a s1.len s1.cap, .slice s2.a s2.len s2.cap] :: ownA 1 s1 (ivs .i64 ls) :: ownA 1 s2 (ivs .i64 (hcodes ls)) :: rest)) : St F0 w0 w (hrA cb ls :: rest) := by
  have h := (h.tail fun _ _ _ h => h.join).join
  exact (h.ifI (c := okL ls ∧ kr ls ≤ 32768 ∧ ls.length ≤ 288) ⟨h1, h2, h3⟩).exI (p := fun s : Sl × Sl => ifA (okL ls ∧ kr ls ≤ 32768 ∧ ls.length ≤ 288) <| andA (blkA cb [.slice s.1.a s.1.len s.1.cap, .slice s.2.a s.2.len s.2.cap]) <| andA (ownA 1 s.1 (ivs .i64 ls)) (ownA 1 s.2 (ivs .i64 (hcodes ls)))) (s1, s2)

theorem pos_sum_sn {i : Nat} (h : i < ls.length) : ((ls.take (i + 1)).filter (0 < ·)).sum = ((ls.take i).filter (0 < ·)).sum + if 0 < ls.getD i 0 then ls.getD i 0 else 0 := by
  rw [take_sn h, List.filter_append, List.sum_append]
  by_cases h0 : 0 < ls.getD i 0
  · rw [if_pos h0]
    have : [ls.getD i 0].filter (0 < ·) = [ls.getD i 0] := List.filter_eq_self.2 fun a ha => by rw [List.mem_singleton.1 ha]; simpa using h0
    rw [this]; simp
  · rw [if_neg h0]
    have : [ls.getD i 0].filter (0 < ·) = [] := List.filter_eq_nil_iff.2 fun a ha => by rw [List.mem_singleton.1 ha]; simpa using h0
    rw [this]; simp

theorem troveref5_New.c {s : Sl} {half : Bool} {K : Ending → World → Prop} (h : St F0 w0 w ps) [Rdb F0 w0 s ps 1 (ivs .i64 ls)]
    (hk : ∀ cb w', hnew ls half = 0 → St F0 w0 w' (hrA cb ls :: ps) → K (.returned (.tuple ⟨[.pointer (some ⟨cb, 0, none⟩), .int .i64 0]⟩)) w')
    (hk2 : ∀ w', hnew ls half ≠ 0 → St F0 w0 w' ps → K (.returned (.tuple ⟨[.pointer none, .int .i64 (hnew ls half)]⟩)) w') : Calls Try.prog 100 ⟨[.slice s.a s.len s.cap, .bool half]⟩ w K := by
  have hl := (h.rdb s).1
  rw [ivs_length] at hl
  refine ret_k (troveref5_New.ok _ _ _ _ ?_)
  unfold troveref5_New troveref5_New.j1
  refine troveref5_Check.c h fun w h => ⟨_, _, rfl, ?_⟩
  refine br_b (fun g => ?_) (fun g => ?_)
  · have g : (hchk ls).2 ≠ 0 := by simpa using g
    have e : hnew ls half = (hchk ls).2 := by unfold hnew; rw [if_pos g]
    rw [e] at hk2
    exact hk2 w g h
  have g : (hchk ls).2 = 0 := by simpa using g
  obtain ⟨hok, hkr, hlen, hfull⟩ := hchk_ok g
  have hnw : hnew ls half = if (hchk ls).1 = false ∧ (half && hhalf ls) = false then 2 else 0 := by unfold hnew; rw [if_neg (by rw [g]; decide)]
  have fin : ∀ {w}, St F0 w0 w ps → hnew ls half = 0 → troveref5_New.j3 s (fun v w' => K (.returned v) w') w := by
    intro w h hn0
    unfold troveref5_New.j3
    refine troveref5_Codes.c h (fun s2 w _ h => ⟨s2, _, rfl, ?_⟩) (fun w hne _ => absurd g hne)
    refine h.clone (k := .i64) (s2 := s) (by omega) fun s1 w h => ?_
    refine h.new fun nb w h => ?_
    exact hk nb w hn0 (hrA_i (s1 := s1) (s2 := s2) hok hkr hlen h)
  unfold troveref5_New.j2 troveref5_New.j4
  refine br_b (fun g5 => ?_) (fun g5 => ?_)
  · have g5 : (hchk ls).1 = false := by simpa using g5
    unfold troveref5_New.j5 troveref5_New.j7
    have hsl : ∀ i, i ≤ ls.length → 0 ≤ ((ls.take i).filter (0 < ·)).sum ∧ ((ls.take i).filter (0 < ·)).sum ≤ 15 * i := by
      intro i
      induction i with
      | zero => intro _; simp
      | succ i ih =>
        intro hi
        have h1 := ih (by omega)
        have h2 := hok _ (mem_getD (show i < ls.length by omega))
        rw [pos_sum_sn (by omega)]
        split <;> omega
    refine loop2 (fun (i : Nat) (c i' : Int) w' => i' = i ∧ i ≤ ls.length ∧ c = ((ls.take i).filter (0 < ·)).sum ∧ St F0 w0 w' ps) (fun i => ls.length - i) 0 ⟨rfl, by omega, rfl, h⟩ ?_
    clear h
    rintro i c i' w I μ ⟨rfl, hi, rfl, h⟩ hin
    have hs1 := hsl i hi
    unfold troveref5_New.b1
    refine br_d (fun g4 => ?_) (fun g4 => ?_)
    · have hil : i < ls.length := by omega
      have h2 := hok _ (mem_getD hil)
      have hsn := pos_sum_sn hil
      refine h.lx i rfl hil ?_
      refine br_d (fun g6 => ?_) (fun g6 => ?_)
      · rw [if_pos (by omega)] at hsn
        refine h.lx i rfl hil ?_
        refine lt_as (wrap_i64 (by omega) (by omega)) ?_
        refine lt_as (wrap_i64 (by omega) (by omega)) ?_
        exact ⟨⟨rfl, rfl⟩, hin (i + 1) _ _ _ ⟨by omega, by omega, hsn.symm, h⟩ (by omega)⟩
      · rw [if_neg (by omega), Int.add_zero] at hsn
        refine lt_as (wrap_i64 (by omega) (by omega)) ?_
        exact ⟨⟨rfl, rfl⟩, hin (i + 1) _ _ _ ⟨by omega, by omega, hsn.symm, h⟩ (by omega)⟩
    · have : i = ls.length := by omega
      subst this
      rw [List.take_length]
      have hh := hhalf_eq hok
      unfold troveref5_New.j6
      refine br_b (fun g6 => ?_) (fun g6 => ?_)
      · have g6 : half = false := by simpa using g6
        rw [if_pos ⟨g5, by rw [g6]; rfl⟩] at hnw
        rw [hnw] at hk2
        exact hk2 w (by decide) h
      · have g6 : half = true := by simpa using g6
        refine br_d (fun g7 => ?_) (fun g7 => ?_)
        · rw [decide_eq_false (by omega)] at hh
          rw [if_pos ⟨g5, by rw [hh]; simp⟩] at hnw
          rw [hnw] at hk2
          exact hk2 w (by decide) h
        · rw [decide_eq_true (by omega)] at hh
          rw [if_neg (fun e => by rw [hh, g6] at e; exact absurd e.2 (by decide))] at hnw
          exact fin h hnw
  · have g5 : (hchk ls).1 = true := by simpa using g5
    exact fin h (by rw [hnw, if_neg (fun e => by rw [g5] at e; exact absurd e.1 (by decide))])

/-- the document's reader of bits: its row, the place -/
def bitR (rb : Nat) (x : Sl × Nat) : As := rfA rb x.1 x.2

theorem troveref2_Reader_Get.one {rb V N p : Nat} {s : Sl} {K : Ending → World → Prop} (h : St F0 w0 w (bitR rb (s, p) :: ps)) [Rdb F0 w0 s ps 1 (u8s (byt V N))] (hN : N ≤ 137438953472) (hp : p ≤ 8 * N)
    (hk : p < 8 * N → ∀ w', St F0 w0 w' (bitR rb (s, p + 1) :: ps) → K (.returned (.tuple ⟨[.int .i64 ((bt V p).toNat : Nat), .bool true]⟩)) w')
    (hk' : ¬ p < 8 * N → ∀ w', St F0 w0 w' (bitR rb (s, p) :: ps) → K (.returned (.tuple ⟨[.int .i64 0, .bool false]⟩)) w') :
    Calls Try.prog 52 ⟨[.pointer (some ⟨rb, 0, none⟩), .int .i64 1]⟩ w K := by
  refine troveref2_Reader_Get.c (V := V) (N := N) (at' := p) (s := s) h (fun w h => h.rdb s) hN hp (fun g w h => ?_) (fun g w h => ?_)
  · have g : p < 8 * N := by simp [getOk] at g; omega
    have e := bt_toNat V p
    have e2 : ((V / 2 ^ p % 2 ^ (1 : Int).toNat : Nat) : Int) = (((bt V p).toNat : Nat) : Int) := by
      rw [e, show (1 : Int).toNat = 1 by decide, Nat.pow_one]
      simp
    rw [e2]
    exact hk g w h
  · have g : ¬ p < 8 * N := by simp [getOk] at g; omega
    exact hk' g w h

theorem troveref5_Code_Next.c {cb rb V N p : Nat} {s : Sl} {K : Ending → World → Prop} (h : St F0 w0 w (bitR rb (s, p) :: ps)) [PkF hrA cb ps ls rest] [Rdb F0 w0 s ps 1 (u8s (byt V N))] (hN : N ≤ 137438953472) (hp : p ≤ 8 * N)
    (hk : ∀ w', (hnext ls (bitsOf V (8 * N)) p).2.2 ≤ 8 * N → St F0 w0 w' (bitR rb (s, (hnext ls (bitsOf V (8 * N)) p).2.2) :: ps) → K (.returned (.tuple ⟨[.int .i64 (hnext ls (bitsOf V (8 * N)) p).1, .int .i64 (hnext ls (bitsOf V (8 * N)) p).2.1]⟩)) w') :
    Calls Try.prog 103 ⟨[.pointer (some ⟨cb, 0, none⟩), .pointer (some ⟨rb, 0, none⟩)]⟩ w K := by
  refine ret_k (troveref5_Code_Next.ok _ _ _ _ ?_)
  unfold troveref5_Code_Next troveref5_Code_Next.j1 troveref5_Code_Next.j3
  obtain ⟨hok, hkr, hlen, _⟩ := hrA_get cb h
  have hlg := hlong_le ls 15 (by decide)
  refine loop2 (fun (a : Nat × Nat × Nat) (t6 t7 : Int) w' => t6 = a.2.1 ∧ t7 = a.1 ∧ 1 ≤ a.1 ∧ a.1 ≤ hlong ls 15 ∧ hf ls (a.1 - 1) + hc ls (a.1 - 1) ≤ a.2.1 ∧ a.2.1 < 2 ^ (a.1 - 1) ∧ a.2.2 ≤ 8 * N ∧
    hdec ls (bitsOf V (8 * N)) (hlong ls 15 + 1 - a.1) a.1 a.2.1 a.2.2 = hnext ls (bitsOf V (8 * N)) p ∧ St F0 w0 w' (bitR rb (s, a.2.2) :: ps)) (fun a => 17 - a.1) (1, 0, p) ⟨rfl, rfl, by simp, by simp only; omega, by simp [hf, hc], by simp, hp, by simp [hnext], h⟩ ?_
  clear h
  rintro ⟨n, v, q⟩ t6 t7 wO I μ ⟨rfl, rfl, hn1, hn, hge, hv, hq, hd, h⟩ hin
  simp only at hn1 hn hge hv hq hd h hin ⊢
  obtain ⟨m, rfl⟩ : ∃ m, n = m + 1 := ⟨n - 1, by omega⟩
  rw [Nat.add_sub_cancel] at hge hv
  unfold troveref5_Code_Next.b1
  refine br_d (fun g => ?_) (fun g => by omega)
  have hm15 : m + 1 ≤ 15 := by omega
  have hv2 : v < 32768 := Nat.lt_of_lt_of_le hv (Nat.le_trans (Nat.pow_le_pow_right (by decide) (show m ≤ 15 by omega)) (by decide))
  obtain ⟨f, hf1⟩ : ∃ f, hlong ls 15 + 1 - (m + 1) = f + 1 := ⟨hlong ls 15 - (m + 1), by omega⟩
  rw [hf1, hdec, bitsOf_get] at hd
  unfold troveref5_Code_Next.j4
  refine troveref2_Reader_Get.one (s := s) h hN hq (fun gk w h => ⟨_, _, rfl, ?_⟩) (fun gk w h => ⟨_, _, rfl, ?_⟩)
  · rw [if_pos gk] at hd
    simp only at hd
    refine br_f1 ?_
    unfold troveref5_Code_Next.j6
    refine ⟨by decide, lt_as (shl1 (by omega)) ?_⟩
    refine lt_as (or1 _ (by omega)) ?_
    have hb1 := hf_mono_le ls hok hkr (n := m) (by omega)
    have hb2 := hf_mono_le ls hok hkr (n := m + 1) hm15
    have hx : (bt V q).toNat < 2 := by cases bt V q <;> decide
    generalize (bt V q).toNat = x at hd hx ⊢
    have hfe : hf ls (m + 1) = 2 * (hf ls m + hc ls m) := rfl
    unfold troveref5_Code_Next.j7 troveref5_Code_Next.j9
    refine loop2 (fun (i : Nat) (t10 : Bool) (i' : Int) w' => i' = i ∧ i ≤ ls.length ∧ (∀ j, j < i → ¬ (ls.getD j 0 = ((m + 1 : Nat) : Int) ∧ hcode ls j = 2 * v + x)) ∧ (t10 = true ↔ ∃ j, j < i ∧ ((m + 1 : Nat) : Int) < ls.getD j 0) ∧ St F0 w0 w' (bitR rb (s, q + 1) :: ps)) (fun i => ls.length - i) 0
      ⟨rfl, by omega, fun j hj => by omega, ⟨fun e => by (cases e), fun ⟨j, hj, _⟩ => absurd hj (Nat.not_lt_zero _)⟩, h⟩ ?_
    clear h
    rintro i t10 i' w I2 μ2 ⟨rfl, hi, hno, hsome, h⟩ hin2
    unfold troveref5_Code_Next.b2
    obtain ⟨_, _, _, s1, s2, hb, r1, r2⟩ := hrA_get cb h
    have l1 := r1.1
    rw [ivs_length] at l1
    refine nz_i (hb.ldL (o := 0) (n := s1) rfl ?_)
    refine br_d (fun g2 => ?_) (fun g2 => ?_)
    · have hil : i < ls.length := by omega
      have step : ¬ (ls.getD i 0 = ((m + 1 : Nat) : Int) ∧ hcode ls i = 2 * v + x) → troveref5_Code_Next.j12 (some ⟨cb, 0, none⟩) (some ⟨rb, 0, none⟩) ((2 * v + x : Nat) : Int) ((m + 1 : Nat) : Int) t10 (i : Int) (fun v w' => K (.returned v) w')
          (fun d_0' i_1' t6' t7' w' => (d_0' = some ⟨cb, 0, none⟩ ∧ i_1' = some ⟨rb, 0, none⟩) ∧ I t6' t7' w' ∧ μ t6' t7' w' < μ (v : Int) ((m + 1 : Nat) : Int) wO)
          (fun d_0' i_1' t6' t7' t10' t11' w' => (d_0' = some ⟨cb, 0, none⟩ ∧ i_1' = some ⟨rb, 0, none⟩ ∧ t6' = ((2 * v + x : Nat) : Int) ∧ t7' = ((m + 1 : Nat) : Int)) ∧ I2 t10' t11' w' ∧ μ2 t10' t11' w' < μ2 t10 (i : Int) w) w := by
        intro hn3
        have hno2 : ∀ j, j < i + 1 → ¬ (ls.getD j 0 = ((m + 1 : Nat) : Int) ∧ hcode ls j = 2 * v + x) := fun j hj => by
          by_cases e : j = i
          · rw [e]; exact hn3
          · exact hno j (by omega)
        unfold troveref5_Code_Next.j12
        refine br_b (fun g5 => ?_) (fun g5 => ?_)
        · unfold troveref5_Code_Next.j11
          refine lt_as (wrap_i64 (by omega) (by omega)) ?_
          obtain ⟨j, hj1, hj2⟩ := hsome.1 g5
          exact ⟨⟨rfl, rfl, rfl, rfl⟩, hin2 (i + 1) _ _ _ ⟨by omega, by omega, hno2, ⟨fun _ => ⟨j, by omega, hj2⟩, fun _ => rfl⟩, h⟩ (by omega)⟩
        · refine nz_i (hb.ldL (o := 0) (n := s1) rfl ?_)
          refine r1.at i rfl hil ?_
          unfold troveref5_Code_Next.j11
          refine lt_as (wrap_i64 (by omega) (by omega)) ?_
          refine ⟨⟨rfl, rfl, rfl, rfl⟩, hin2 (i + 1) _ _ _ ⟨by omega, by omega, hno2, ⟨fun e => ⟨i, by omega, by simpa using e⟩, fun ⟨j, hj1, hj2⟩ => ?_⟩, h⟩ (by omega)⟩
          by_cases e : j = i
          · subst e; simpa using hj2
          · have := hsome.2 ⟨j, by omega, hj2⟩
            rw [this] at g5; cases g5
      unfold troveref5_Code_Next.j10
      refine nz_i (hb.ldL (o := 0) (n := s1) rfl ?_)
      refine r1.at i rfl hil ?_
      refine br_b (fun g3 => ?_) (fun g3 => ?_)
      · have g3 : ls.getD i 0 = ((m + 1 : Nat) : Int) := by simpa using g3
        refine nz_i (hb.ldL (o := 1) (n := s2) rfl ?_)
        refine r2.at i rfl (by rw [hcodes_length]; exact hil) ?_
        rw [hcodes_getD _ hil]
        refine br_b (fun g4 => ?_) (fun g4 => ?_)
        · have g4 : hcode ls i = 2 * v + x := by have : (hcode ls i : Int) = ((2 * v + x : Nat) : Int) := by simpa using g4
                                                 omega
          obtain ⟨e1, e2⟩ := hcode_lt hil g3 (by omega)
          rw [if_pos (by omega)] at hd
          have e3 : 2 * v + x - hf ls (m + 1) = (ls.take i).count ((m + 1 : Nat) : Int) := by
            have := hcode_eq g3 (by omega)
            unfold hc at this
            rw [if_neg (by omega)] at this
            omega
          have e4 := hpos_at ls hil (m + 1) g3
          rw [e3, List.getD_eq_getElem?_getD, e4] at hd
          rw [← hd] at hk
          exact hk w (by simp only; omega) h
        · exact step (fun e => by rw [e.2] at g4; simp at g4)
      · exact step (fun e => by rw [e.1] at g3; simp at g3)
    · have : i = ls.length := by omega
      subst this
      clear hin2
      have hno3 : ¬ 2 * v + x < hf ls (m + 1) + hc ls (m + 1) := by
        intro hlt
        have hcn : hc ls (m + 1) = ls.count ((m + 1 : Nat) : Int) := by unfold hc; rw [if_neg (by omega)]
        have hpl := hpos_length ls (m + 1)
        have hkk : 2 * v + x - hf ls (m + 1) < (hpos ls (m + 1)).length := by omega
        have hg := List.getElem?_eq_getElem hkk
        obtain ⟨p1, p2, _⟩ := hpos_get ls (m + 1) hg
        have p3 := hpos_code (l := ls) (by omega) hg
        exact hno _ p1 ⟨p2, by omega⟩
      rw [if_neg hno3] at hd
      have hls : (∃ y ∈ ls, ((m + 1 : Nat) : Int) < y) ↔ m + 1 < hlong ls 15 := hlong_some hok (by omega)
      have hmem : (∃ j, j < ls.length ∧ ((m + 1 : Nat) : Int) < ls.getD j 0) ↔ ∃ y ∈ ls, ((m + 1 : Nat) : Int) < y := by
        constructor
        · rintro ⟨j, h1, h2⟩; exact ⟨_, mem_getD h1, h2⟩
        · rintro ⟨y, h1, h2⟩
          obtain ⟨j, hj⟩ := List.getElem?_of_mem h1
          have hj2 := (List.getElem?_eq_some_iff.1 hj).1
          refine ⟨j, hj2, ?_⟩
          rw [List.getD_eq_getElem?_getD, hj]
          exact h2
      unfold troveref5_Code_Next.j8
      refine br_b (fun g5 => ?_) (fun g5 => ?_)
      · have g5 : t10 = false := by simpa using g5
        have : ¬ m + 1 < hlong ls 15 := fun e => by
          have := hsome.2 (hmem.2 (hls.2 e))
          rw [this] at g5; cases g5
        have hf0 : f = 0 := by clear hls hmem hsome; omega
        rw [hf0, hdec] at hd
        rw [← hd] at hk
        exact hk w (by simp only; omega) h
      · have g5 : t10 = true := by simpa using g5
        have hlt := hls.1 (hmem.1 (hsome.1 g5))
        clear hls hmem hsome
        unfold troveref5_Code_Next.j5
        refine lt_as (wrap_i64 (by omega) (by omega)) ?_
        refine ⟨⟨rfl, rfl⟩, hin (m + 1 + 1, 2 * v + x, q + 1) _ _ _ ⟨rfl, by simp, by simp, by simp only; omega, ?_, ?_, by simp only; omega, ?_, h⟩ (by simp only; omega)⟩
        · simp only [Nat.add_sub_cancel]; omega
        · simp only [Nat.add_sub_cancel]
          rw [Nat.pow_succ]; omega
        · simp only
          rw [show hlong ls 15 + 1 - (m + 1 + 1) = f by omega]
          exact hd
  · rw [if_neg gk] at hd
    simp only at hd
    refine br_t1 ?_
    rw [← hd] at hk
    exact hk w hq h

theorem troveref5_Cost.c {s1 s : Sl} {cs : List Int} {K : Ending → World → Prop} (h : St F0 w0 w ps) [Rdb F0 w0 s1 ps 1 (ivs .i64 ls)] [Rdb F0 w0 s ps 1 (ivs .i64 cs)] (hok : okL ls) (hlen : ls.length ≤ 288) (hc : smallC cs)
    (hk : ∀ w', St F0 w0 w' ps → K (.returned (.int .i64 (costN ls cs (min ls.length cs.length)))) w') :
    Calls Try.prog 106 ⟨[.slice s1.a s1.len s1.cap, .slice s.a s.len s.cap]⟩ w K := by
  refine ret_k (troveref5_Cost.ok _ _ _ _ ?_)
  unfold troveref5_Cost troveref5_Cost.j1 troveref5_Cost.j3
  have l1 := (h.rdb s1).1
  have lc := (h.rdb s).1
  rw [ivs_length] at l1 lc
  refine loop2 (fun (i : Nat) (o i' : Int) w' => i' = i ∧ i ≤ ls.length ∧ i ≤ cs.length ∧ o = costN ls cs i ∧ St F0 w0 w' ps) (fun i => ls.length - i) 0 ⟨rfl, by omega, by omega, rfl, h⟩ ?_
  clear h
  rintro i o i' w I μ ⟨rfl, hi, hi2, rfl, h⟩ hin
  have fin : i = min ls.length cs.length → troveref5_Cost.j2 (costN ls cs i) (fun v w' => K (.returned v) w') w := fun e => by
    rw [← e] at hk
    exact hk w h
  unfold troveref5_Cost.b1
  refine br_d (fun g => ?_) (fun g => fin (by omega))
  refine br_d (fun g2 => ?_) (fun g2 => fin (by omega))
  have h3 := costN_le hok hc i (by omega) (by omega)
  have h4 := costN_le hok hc (i + 1) (by omega) (by omega)
  have h8 := hok _ (mem_getD (show i < ls.length by omega))
  have h5 := hc _ (mem_getD (show i < cs.length by omega))
  have h6 : cs.getD i 0 * ls.getD i 0 ≤ 100000000 * 15 := Int.mul_le_mul h5.2 h8.2 h8.1 (by decide)
  have h7 : 0 ≤ cs.getD i 0 * ls.getD i 0 := Int.mul_nonneg h5.1 h8.1
  refine h.drewK fun w h => ?_
  refine h.lx (s := s1) i rfl (by omega) ?_
  refine h.lx (s := s) i rfl (by omega) ?_
  rw [Int.mul_comm (ls.getD i 0)]
  refine lt_as (wrap_i64 (by omega) (by omega)) ?_
  refine lt_as (wrap_i64 (by omega) (by omega)) ?_
  refine lt_as (wrap_i64 (by omega) (by omega)) ?_
  exact ⟨⟨rfl, rfl⟩, hin (i + 1) _ _ _ ⟨by omega, by omega, by omega, rfl, h⟩ (by omega)⟩

end

end Go.Proofs.Ytkajimndclhgaaa
