/- Huffman codes: counts, checks, codes: the program's texts. Own work. -/
import Derived.Test.YthdmmmfgjmmelaaPush
import Derived.Test.YthdmmmfgjmmelaaHuffN
import Derived.Test.YthdmmmfgjmmelaaGHuff
namespace Go.Proofs.Ythdmmmfgjmmelaa
open Go Go.Proofs
set_option linter.unusedVariables false
set_option linter.unusedSimpArgs false
attribute [local irreducible] apK cpK mkK

theorem zc_a16 : zc Try.prog 86 = ⟨ivs .i64 (List.replicate 16 0)⟩ := by kernel_rfl

theorem ptI_i {k : IntKind} {zs : List Int} {j : Nat} {K : Int → Prop} (hj : j < zs.length) (hk : K (zs.getD j 0)) : ptI k ⟨ivs k zs⟩ j K := ⟨zs.getD j 0, by
  have : (⟨ivs k zs⟩ : Array Value)[j]? = (ivs k zs)[j]? := by simp
  rw [this]; exact ivs_get hj, hk⟩

theorem shl1 {x : Int} (h : 0 ≤ x ∧ x < 1000000000000) : shlV .i64 x 1 = 2 * x := by
  have h := shlV_nat .i64 (x := x) (t := 1) (by decide) h.1 (by rw [show (2 : Int) ^ (IntKind.i64.bits - 1) = 9223372036854775808 by decide]; omega)
  rw [show (2 : Int) ^ 1 = 2 by decide, Int.mul_comm] at h
  exact h

theorem shl_room {c n : Nat} (hc : c ≤ 100000) (hn : n ≤ 15) : shlV .i64 (c : Int) (n : Int) = ((c * 2 ^ n : Nat) : Int) := by
  have hp : (2 : Nat) ^ n ≤ 32768 := Nat.le_trans (Nat.pow_le_pow_right (by decide) hn) (by decide)
  have hp2 : c * 2 ^ n ≤ 100000 * 32768 := Nat.mul_le_mul hc hp
  rw [shlV_nat .i64 (t := n) (show n ≤ 64 by omega) (by omega) (by
    rw [show (2 : Int) ^ (IntKind.i64.bits - 1) = 9223372036854775808 by decide]
    have : (c : Int) * 2 ^ n = ((c * 2 ^ n : Nat) : Int) := by simp
    rw [this]; omega)]
  simp

section
variable {F0 : List Nat} {w0 w : World} {ps rest : List As} {ls : List Int}

theorem huff_counts.c {s : Sl} {K : Ending → World → Prop} (h : St F0 w0 w ps) [Rdb F0 w0 s ps 1 (ivs .i64 ls)] (ho : okL ls) (hL : ls.length ≤ 1000000)
    (hk : ∀ w', St F0 w0 w' ps → K (.returned (.agg ⟨ivs .i64 (clL ls)⟩)) w') : Calls Try.prog 47 ⟨[.slice s.a s.len s.cap]⟩ w K := by
  have hl := (h.rdb s).1
  rw [ivs_length] at hl
  refine ret_k (huff_counts.ok _ _ _ ?_)
  unfold huff_counts
  refine h.new fun n1 w h => ?_
  refine h.new fun n2 w h => ?_
  rw [zc_a16] at h
  have h : St F0 w0 w (blkA n2 (ivs .i64 (List.replicate 16 0)) :: blkA n1 (ivs .i64 (List.replicate 16 0)) :: ps) := h
  unfold huff_counts.j1 huff_counts.j3
  refine loop1 (fun (i : Nat) (i' : Int) w' => i' = i ∧ i ≤ ls.length ∧ St F0 w0 w' (blkA n2 (ivs .i64 (clL (ls.take i))) :: blkA n1 (ivs .i64 (List.replicate 16 0)) :: ps)) (fun i => ls.length - i) 0 ⟨rfl, by omega, by rw [List.take_zero, clL_nil]; exact h⟩ ?_
  clear h
  rintro i i' w I μ ⟨rfl, hi, h⟩ hin
  unfold huff_counts.b1
  refine br_d (fun g => ?_) (fun g => ?_)
  · have hil : i < ls.length := by omega
    have hx := ho _ (mem_getD hil)
    have htk := take_sn hil
    have hcl := hc_le (ls.take i) (ls.getD i 0).toNat
    rw [List.length_take] at hcl
    refine h.lx i rfl hil ?_
    generalize ls.getD i 0 = x at hx htk hcl
    refine br_d (fun g2 => ?_) (fun g2 => ?_)
    · refine h.la x.toNat (by omega) (clL_length _) (by omega) ?_
      rw [clL_getD _ (by omega)]
      refine lt_as (wrap_i64 (by omega) (by omega)) ?_
      refine h.sa x.toNat (by omega) (clL_length _) (by omega) fun w h => ?_
      refine lt_as (wrap_i64 (by omega) (by omega)) ?_
      rw [clL_pos (by omega) hx.2, ← htk] at h
      exact ⟨⟨rfl, rfl, rfl, rfl⟩, hin (i + 1) _ _ ⟨by omega, by omega, h⟩ (by omega)⟩
    · refine lt_as (wrap_i64 (by omega) (by omega)) ?_
      rw [← clL_no (x := x) (by omega), ← htk] at h
      exact ⟨⟨rfl, rfl, rfl, rfl⟩, hin (i + 1) _ _ ⟨by omega, by omega, h⟩ (by omega)⟩
  · have : i = ls.length := by omega
    subst this
    rw [List.take_length] at h
    unfold huff_counts.j2
    have l16 : (ivs .i64 (clL ls)).length = 16 := by rw [ivs_length]; exact clL_length _
    refine h.lA l16 ⟨l16, ?_⟩
    refine h.sA (b := n1) (by rw [ivs_length]; simp) l16 ivs_storable fun w h => ?_
    refine h.lA l16 ?_
    exact hk w h.sub

theorem huff_Check.c {s : Sl} {K : Ending → World → Prop} (h : St F0 w0 w ps) [Rdb F0 w0 s ps 1 (ivs .i64 ls)]
    (hk : ∀ w', St F0 w0 w' ps → K (.returned (.tuple ⟨[.bool (hchk ls).1, .int .i64 (hchk ls).2]⟩)) w') : Calls Try.prog 13 ⟨[.slice s.a s.len s.cap]⟩ w K := by
  have hl := (h.rdb s).1
  rw [ivs_length] at hl
  refine ret_k (huff_Check.ok _ _ _ ?_)
  unfold huff_Check
  unfold hchk at hk
  refine br_d (fun g => ?_) (fun g => ?_)
  · rw [if_pos (by omega)] at hk
    exact hk w h
  rw [if_neg (by omega)] at hk
  unfold huff_Check.j1 huff_Check.j6
  refine loop1 (fun (i : Nat) (i' : Int) w' => i' = i ∧ i ≤ ls.length ∧ okL (ls.take i) ∧ St F0 w0 w' ps) (fun i => ls.length - i) 0 ⟨rfl, by omega, fun x hx => by simp at hx, h⟩ ?_
  clear h
  rintro i i' w I μ ⟨rfl, hi, hok, h⟩ hin
  unfold huff_Check.b2
  refine br_d (fun g2 => ?_) (fun g2 => ?_)
  · have hil : i < ls.length := by omega
    have bad : ¬ (0 ≤ ls.getD i 0 ∧ ls.getD i 0 ≤ 15) → K (.returned (.tuple ⟨[.bool false, .int .i64 1]⟩)) w := fun hn => by
      rw [if_pos (fun e => hn (e _ (mem_getD hil)))] at hk
      exact hk w h
    refine h.lx i rfl hil ?_
    refine br_d (fun g3 => bad (by omega)) (fun g3 => ?_)
    refine br_d (fun g4 => bad (by omega)) (fun g4 => ?_)
    refine lt_as (wrap_i64 (by omega) (by omega)) ?_
    refine ⟨⟨rfl, rfl, rfl⟩, hin (i + 1) _ _ ⟨by omega, by omega, ?_, h⟩ (by omega)⟩
    rw [take_sn hil]
    intro x hx
    rcases List.mem_append.1 hx with hx | hx
    · exact hok x hx
    · rw [List.mem_singleton.1 hx]; omega
  have : i = ls.length := by omega
  subst this
  rw [List.take_length] at hok
  clear hin
  rw [if_neg (fun e => e hok)] at hk
  unfold huff_Check.j2 huff_Check.j3
  refine huff_counts.c h hok (by omega) fun w h => ⟨_, rfl, ?_⟩
  unfold huff_Check.j5
  have hkr := kr_eq ls hok
  have hkl := kr_le ls
  refine loop2 (fun (n : Nat) (r n' : Int) w' => n' = n ∧ n ≤ 16 ∧ r = 32768 - (krN ls (n - 1) : Int) ∧ St F0 w0 w' ps) (fun n => 16 - n) 0 ⟨rfl, by omega, by simp [krN], h⟩ ?_
  clear h
  rintro n r n' w I μ ⟨rfl, hn, rfl, h⟩ hin
  unfold huff_Check.b1
  refine br_d (fun g3 => ?_) (fun g3 => ?_)
  · refine ⟨⟨by omega, by omega⟩, ptI_i (by rw [clL_length]; omega) ?_⟩
    rw [show ((n : Int)).toNat * 1 = n by omega, clL_getD _ (by omega)]
    have hm := krN_mono ls 15 (n - 1) (by omega)
    refine br_d (fun g4 => ?_) (fun g4 => ?_)
    · refine lt_as (show IntKind.i64.wrap (15 - (n : Int)) = ((15 - n : Nat) : Int) by rw [wrap_i64 (by omega) (by omega)]; omega) ?_
      have hcl := hc_le ls n
      refine ⟨by omega, lt_as (shl_room (by omega) (by omega)) ?_⟩
      obtain ⟨m, rfl⟩ : ∃ m, n = m + 1 := ⟨n - 1, by omega⟩
      have hm2 := krN_mono ls 15 (m + 1) (by omega)
      have hst : krN ls (m + 1) = krN ls m + hc ls (m + 1) * 2 ^ (15 - (m + 1)) := rfl
      rw [Nat.add_sub_cancel] at hm ⊢
      refine lt_as (wrap_i64 (by omega) (by omega)) ?_
      refine lt_as (wrap_i64 (by omega) (by omega)) ?_
      exact ⟨rfl, hin (m + 1 + 1) _ _ _ ⟨by omega, by omega, by rw [Nat.add_sub_cancel, hst]; omega, h⟩ (by omega)⟩
    · have : n = 0 := by omega
      subst this
      refine lt_as (wrap_i64 (by omega) (by omega)) ?_
      exact ⟨rfl, hin 1 _ _ _ ⟨by omega, by omega, rfl, h⟩ (by omega)⟩
  · have : n = 16 := by omega
    subst this
    have e : krN ls (16 - 1) = kr ls := hkr.symm
    rw [e]
    unfold huff_Check.j4
    refine br_d (fun g4 => ?_) (fun g4 => ?_)
    · rw [if_pos (by omega)] at hk
      exact hk w h
    · rw [if_neg (by omega)] at hk
      have e : ((32768 - (kr ls : Int)) == 0) = decide (kr ls = 32768) := by
        apply Bool.eq_iff_iff.2
        rw [beq_iff_eq, decide_eq_true_eq]
        omega
      rw [e]
      exact hk w h

/-! ### codes -/

def nxL (l : List Int) (n : Nat) : List Int := mapR 16 fun m => if m < n then (hf l m : Int) else 0
def nyL (l : List Int) (i : Nat) : List Int := mapR 16 fun m => ((hf l m + hc (l.take i) m : Nat) : Int)
def cdL (l : List Int) (i : Nat) : List Int := mapR l.length fun m => if m < i then (hcode l m : Int) else 0

theorem huff_Codes.c {s : Sl} {K : Ending → World → Prop} (h : St F0 w0 w ps) [Rdb F0 w0 s ps 1 (ivs .i64 ls)]
    (hk : ∀ s' w', (hchk ls).2 = 0 → St F0 w0 w' (ownA 1 s' (ivs .i64 (hcodes ls)) :: ps) → K (.returned (.tuple ⟨[.slice s'.a s'.len s'.cap, .int .i64 0]⟩)) w')
    (hk2 : ∀ w', (hchk ls).2 ≠ 0 → St F0 w0 w' ps → K (.returned (.tuple ⟨[.slice none 0 0, .int .i64 (hchk ls).2]⟩)) w') : Calls Try.prog 48 ⟨[.slice s.a s.len s.cap]⟩ w K := by
  have hl := (h.rdb s).1
  rw [ivs_length] at hl
  refine ret_k (huff_Codes.ok _ _ _ ?_)
  unfold huff_Codes
  refine huff_Check.c h fun w h => ⟨_, _, rfl, ?_⟩
  refine br_b (fun g => ?_) (fun g => ?_)
  · exact hk2 w (by simpa using g) h
  have g : (hchk ls).2 = 0 := by simpa using g
  obtain ⟨hok, hkr, hlen, _⟩ := hchk_ok g
  unfold huff_Codes.j1
  refine h.new fun n1 w h => ?_
  rw [zc_a16] at h
  have h : St F0 w0 w (blkA n1 (ivs .i64 (List.replicate 16 0)) :: ps) := h
  refine huff_counts.c h hok (by omega) fun w h => ⟨_, rfl, ?_⟩
  refine h.new fun n2 w h => ?_
  rw [zc_a16] at h
  have h : St F0 w0 w (blkA n2 (ivs .i64 (List.replicate 16 0)) :: blkA n1 (ivs .i64 (List.replicate 16 0)) :: ps) := h
  have l16 : (ivs .i64 (clL ls)).length = 16 := by rw [ivs_length]; exact clL_length _
  refine ⟨l16, ?_⟩
  refine h.sA (b := n2) (by rw [ivs_length]; simp) l16 ivs_storable fun w h => ?_
  unfold huff_Codes.j2 huff_Codes.j7
  have nx0 : List.replicate 16 0 = nxL ls 1 := by
    rw [rep_mapR]
    refine mapR_congr fun i hi => ?_
    by_cases h : i < 1
    · rw [if_pos h, show i = 0 by omega]; rfl
    · rw [if_neg h]
  rw [nx0] at h
  refine loop1 (fun (n : Nat) (n' : Int) w' => n' = n ∧ 1 ≤ n ∧ n ≤ 16 ∧ St F0 w0 w' (blkA n1 (ivs .i64 (nxL ls n)) :: blkA n2 (ivs .i64 (clL ls)) :: ps)) (fun n => 16 - n) 1 ⟨rfl, by omega, by omega, h.sub⟩ ?_
  clear h
  rintro n n' w I μ ⟨rfl, hn1, hn, h⟩ hin
  unfold huff_Codes.b2
  refine br_d (fun g3 => ?_) (fun g3 => ?_)
  · obtain ⟨m, rfl⟩ : ∃ m, n = m + 1 := ⟨n - 1, by omega⟩
    have hb := hf_mono_le ls hok hkr (n := m) (by omega)
    refine h.drewK fun w h => ?_
    refine lt_as (wrap_i64 (by omega) (by omega)) ?_
    refine h.la (b := n1) m (by omega) (mapR_length _ _) (by omega) ?_
    refine lt_as (wrap_i64 (by omega) (by omega)) ?_
    refine h.la (b := n2) m (by omega) (clL_length _) (by omega) ?_
    have e1 : (nxL ls (m + 1)).getD m 0 = hf ls m := by unfold nxL; rw [getD_mapR (by omega), if_pos (by omega)]
    rw [e1, clL_getD _ (by omega)]
    refine lt_as (wrap_i64 (by omega) (by omega)) ?_
    refine ⟨by decide, lt_as (shl1 (by omega)) ?_⟩
    refine h.sa (b := n1) (m + 1) (by omega) (mapR_length _ _) (by omega) fun w h => ?_
    refine lt_as (wrap_i64 (by omega) (by omega)) ?_
    have e2 : (nxL ls (m + 1)).set (m + 1) (2 * ((hf ls m : Int) + (hc ls m : Int))) = nxL ls (m + 1 + 1) := by
      unfold nxL
      rw [set_mapR]
      refine mapR_congr fun i hi => ?_
      by_cases h : i = m + 1
      · rw [if_pos h, if_pos (by omega), h, hf]; omega
      · rw [if_neg h]
        by_cases h2 : i < m + 1
        · rw [if_pos h2, if_pos (by omega)]
        · rw [if_neg h2, if_neg (by omega)]
    rw [e2] at h
    exact ⟨⟨rfl, rfl, rfl⟩, hin (m + 1 + 1) _ _ ⟨by omega, by omega, by omega, h⟩ (by omega)⟩
  have : n = 16 := by omega
  subst this
  clear hin
  have ny0 : nxL ls 16 = nyL ls 0 := mapR_congr fun i hi => by
    rw [if_pos hi, List.take_zero]
    simp [hc]
  rw [ny0] at h
  unfold huff_Codes.j3
  refine h.makeI (n := ls.length) (by omega) (by omega) (by omega) fun o w ho1 ho2 h => ?_
  unfold huff_Codes.j4 huff_Codes.j6
  have cd0 : List.replicate ls.length 0 = cdL ls 0 := by
    rw [rep_mapR]
    exact mapR_congr fun i hi => by rw [if_neg (by omega)]
  rw [cd0] at h
  refine loop1 (fun (i : Nat) (i' : Int) w' => i' = i ∧ i ≤ ls.length ∧ St F0 w0 w' (ownA 1 o (ivs .i64 (cdL ls i)) :: blkA n1 (ivs .i64 (nyL ls i)) :: ps)) (fun i => ls.length - i) 0 ⟨rfl, by omega, h.sub⟩ ?_
  clear h
  rintro i i' w I μ ⟨rfl, hi, h⟩ hin
  unfold huff_Codes.b1
  refine br_d (fun g4 => ?_) (fun g4 => ?_)
  · have hil : i < ls.length := by omega
    have hx := hok _ (mem_getD hil)
    have cds : ∀ v : Int, v = hcode ls i → (cdL ls i).set i v = cdL ls (i + 1) := by
      intro v hv
      unfold cdL
      rw [set_mapR]
      refine mapR_congr fun j hj => ?_
      by_cases h : j = i
      · rw [if_pos h, if_pos (by omega), h, hv]
      · rw [if_neg h]
        by_cases h2 : j < i
        · rw [if_pos h2, if_pos (by omega)]
        · rw [if_neg h2, if_neg (by omega)]
    refine h.lx i rfl hil ?_
    refine br_d (fun g5 => ?_) (fun g5 => ?_)
    · obtain ⟨m, hm⟩ : ∃ m : Nat, ls.getD i 0 = m := ⟨(ls.getD i 0).toNat, by omega⟩
      have hce := hcode_eq hm (by omega)
      have hsz := hcode_size hok hkr hil hm (by omega)
      have hp : (2 : Nat) ^ m ≤ 32768 := Nat.le_trans (Nat.pow_le_pow_right (by decide) (show m ≤ 15 by omega)) (by decide)
      have eg : (nyL ls i).getD m 0 = hcode ls i := by unfold nyL; rw [getD_mapR (by omega), hce]
      rw [hm] at g5 hx ⊢
      refine h.la (b := n1) m rfl (mapR_length _ _) (by omega) ?_
      rw [eg]
      refine h.sx (s := o) i rfl (by unfold cdL; rw [mapR_length]; exact hil) fun w h => ?_
      refine h.la (b := n1) m rfl (mapR_length _ _) (by omega) ?_
      rw [eg]
      refine lt_as (wrap_i64 (by omega) (by omega)) ?_
      refine h.sa (b := n1) m rfl (mapR_length _ _) (by omega) fun w h => ?_
      refine lt_as (wrap_i64 (by omega) (by omega)) ?_
      have eny : (nyL ls i).set m ((hcode ls i : Int) + 1) = nyL ls (i + 1) := by
        unfold nyL
        rw [set_mapR]
        refine mapR_congr fun j hj => ?_
        rw [take_sn hil, hc_snoc, hm]
        by_cases h : j = m
        · rw [if_pos h, if_pos (by omega), h, hce]; omega
        · rw [if_neg h, if_neg (by omega)]; omega
      rw [cds _ rfl, eny] at h
      exact ⟨⟨rfl, rfl, rfl, rfl⟩, hin (i + 1) _ _ ⟨by omega, by omega, h.sub⟩ (by omega)⟩
    · refine lt_as (wrap_i64 (by omega) (by omega)) ?_
      have ecd : cdL ls i = cdL ls (i + 1) := by
        refine mapR_congr fun j hj => ?_
        by_cases h2 : j < i
        · rw [if_pos h2, if_pos (by omega)]
        · rw [if_neg h2]
          by_cases h3 : j = i
          · rw [if_pos (by omega), h3, hcode_no (by omega)]; rfl
          · rw [if_neg (by omega)]
      have eny : nyL ls i = nyL ls (i + 1) := by
        refine mapR_congr fun j hj => ?_
        rw [take_sn hil, hc_snoc, if_neg (by omega)]
        rfl
      rw [ecd, eny] at h
      exact ⟨⟨rfl, rfl, rfl, rfl⟩, hin (i + 1) _ _ ⟨by omega, by omega, h⟩ (by omega)⟩
  · have : i = ls.length := by omega
    subst this
    have e : cdL ls ls.length = hcodes ls := by
      show mapR _ _ = mapR _ fun i => (hcode ls i : Int)
      exact mapR_congr fun j hj => by rw [if_pos hj]
    rw [e] at h
    unfold huff_Codes.j5
    exact hk o w g h.sub

end

end Go.Proofs.Ythdmmmfgjmmelaa
