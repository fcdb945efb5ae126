/- The document's SHA-1: the sum, whole. Own work. -/
import Derived.Test.YtkajimndclhgaaaShaK
import Derived.Test.YtkajimndclhgaaaPush
namespace Go.Proofs.Ytkajimndclhgaaa
open Go Go.Proofs
set_option linter.unusedVariables false
set_option linter.unusedSimpArgs false
attribute [local irreducible] apK cpK mkK hs sumB rounds growW

section
variable {F0 : List Nat} {w0 w : World} {ps : List As}

theorem be8_take (v : Int) {i : Nat} (hi : i < 8) : (be8 v).take (i + 1) = (be8 v).take i ++ [v / 2 ^ (8 * (7 - i)) % 256] := by
  have hl : (be8 v).length = 8 := by simp [be8]
  rw [List.take_succ_eq_append_getElem (by omega)]
  congr 2
  simp [be8]

theorem troveref3_Sum.c {s : Sl} {xs : List Int} {K : Ending → World → Prop} (h : St F0 w0 w ps) [Rdb F0 w0 s ps 1 (u8s xs)] (hx : allB xs) (hL : xs.length ≤ 34359738368)
    (hk : ∀ w', St F0 w0 w' ps → K (.returned (.agg ⟨u8s (sumB xs)⟩)) w') : Calls Try.prog 58 ⟨[.slice s.a s.len s.cap]⟩ w K := by
  have hsl := (h.rdb s).1
  rw [u8s_length] at hsl
  refine ret_k (troveref3_Sum.ok _ _ _ ?_)
  unfold troveref3_Sum
  refine h.new fun n2 w h => ?_
  have hz : (zc Try.prog 50).toList.length = 20 := by rw [Array.length_toList, zc_20]; rfl
  generalize (zc Try.prog 50).toList = c at h hz
  unfold troveref3_Sum.j1
  refine h.clone (k := .u8) (s2 := s) (by omega) fun s1 w h => ?_
  refine h.pushI (by omega) fun s2 w h => ?_
  unfold troveref3_Sum.j2
  refine loop1 (fun (j : Nat) (o : Sl) w => j ≤ (119 - xs.length % 64) % 64 ∧ St F0 w0 w (ownA 1 o (u8s (xs ++ [128] ++ List.replicate j 0)) :: blkA n2 c :: ps)) (fun j => 64 - j) 0 ⟨by omega, by simpa using h⟩ ?_
  clear h
  rintro j o w I μ ⟨hj, h⟩ hin
  have hyl : (xs ++ [128] ++ List.replicate j 0).length = xs.length + 1 + j := by simp; omega
  have hol := h.len
  rw [u8s_length, hyl] at hol
  unfold troveref3_Sum.b4
  refine ⟨by decide, ?_⟩
  refine lt_as (tmod_nn (by omega)) ?_
  refine br_b (fun h1 => ?_) (fun h1 => ?_)
  · have h1 : ¬ ((o.len : Nat) : Int) % 64 = 56 := by simpa using h1
    refine h.pushI (by rw [hyl]; omega) fun s2 w h => ?_
    refine ⟨⟨rfl, rfl⟩, hin (j + 1) _ _ ⟨by omega, ?_⟩ (by omega)⟩
    rw [List.replicate_succ', ← List.append_assoc]
    exact h
  have h1 : ((o.len : Nat) : Int) % 64 = 56 := by simpa using h1
  have hjz : j = (119 - xs.length % 64) % 64 := by omega
  clear hin
  unfold troveref3_Sum.j3
  refine lt_as (show IntKind.u64.wrap ((s.len : Nat) : Int) = xs.length by rw [wrap_u64]; omega) ?_
  refine lt_as (show IntKind.u64.wrap ((xs.length : Int) * 8) = 8 * (xs.length : Int) by rw [wrap_u64]; omega) ?_
  unfold troveref3_Sum.j4 troveref3_Sum.j12
  have h0 : xs ++ [128] ++ List.replicate j 0 = xs ++ [128] ++ zeros xs.length := by rw [zeros, hjz]
  rw [h0] at h
  have hzl : (xs ++ [128] ++ zeros xs.length).length ≤ 34359739000 := by rw [← h0, hyl]; omega
  have hbl : (be8 (8 * (xs.length : Int))).length = 8 := by simp [be8]
  refine loop2 (fun (i : Nat) (o : Sl) (i' : Int) w => i' = 7 - (i : Int) ∧ i ≤ 8 ∧ St F0 w0 w (ownA 1 o (u8s (xs ++ [128] ++ zeros xs.length ++ (be8 (8 * (xs.length : Int))).take i)) :: blkA n2 c :: ps)) (fun i => 8 - i) 0 ⟨rfl, by omega, by rw [List.take_zero, List.append_nil]; exact h⟩ ?_
  clear h
  rintro i o i' w I μ ⟨rfl, hi, h⟩ hin
  unfold troveref3_Sum.b3
  refine br_d (fun h1 => ?_) (fun h1 => ?_)
  · have hi8 : i < 8 := by omega
    refine lt_as (show IntKind.u64.wrap (7 - (i : Int)) = ((7 - i : Nat) : Int) by rw [wrap_u64]; omega) ?_
    refine lt_as (show IntKind.u64.wrap (8 * ((7 - i : Nat) : Int)) = ((8 * (7 - i) : Nat) : Int) by rw [wrap_u64]; omega) ?_
    refine ⟨by omega, ?_⟩
    refine lt_as (shrV_nat .u64 _ (show 8 * (7 - i) ≤ 64 by omega)) ?_
    refine lt_as (wrap_u8 _) ?_
    refine h.pushI (by rw [List.length_append, List.length_take, hbl]; omega) fun s2 w h => ?_
    refine lt_as (wrap_i64 (by omega) (by omega)) ?_
    refine ⟨⟨rfl, rfl⟩, hin (i + 1) _ _ _ ⟨by omega, by omega, ?_⟩ (by omega)⟩
    rw [be8_take _ hi8, ← List.append_assoc]
    exact h
  · have : i = 8 := by omega
    subst this
    rw [List.take_of_length_le (by omega)] at h
    have e : xs ++ [128] ++ zeros xs.length ++ be8 (8 * xs.length) = padded xs := rfl
    rw [e] at h
    have hpb : allB (padded xs) := by
      rw [← e]
      intro x hx'
      rcases List.mem_append.1 hx' with hx' | hx'
      rcases List.mem_append.1 hx' with hx' | hx'
      rcases List.mem_append.1 hx' with hx' | hx'
      · exact hx x hx'
      · rw [List.mem_singleton.1 hx']; decide
      · rw [List.eq_of_mem_replicate hx']; decide
      · exact beJ_ok 8 8 _ x hx'
    have hpl : (padded xs).length ≤ 1099511627776 := by rw [← e, List.length_append, hbl]; omega
    refine troveref3_Sum.blocks hz hpb (padded_length xs) hpl h fun w h => ?_
    have := hk w h
    unfold sumB sumW at this
    exact this

end

end Go.Proofs.Ytkajimndclhgaaa
