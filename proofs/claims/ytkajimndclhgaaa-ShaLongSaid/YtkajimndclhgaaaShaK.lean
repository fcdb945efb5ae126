/- The document's SHA-1: the sum. Own work. -/
import Derived.Test.YtkajimndclhgaaaShaJ
namespace Go.Proofs.Ytkajimndclhgaaa
open Go Go.Proofs
set_option linter.unusedVariables false
set_option linter.unusedSimpArgs false
attribute [local irreducible] apK cpK mkK hs sumB rounds growW

theorem zc_20 : zc Try.prog 50 = ⟨u8s (List.replicate 20 0)⟩ := by kernel_rfl

theorem sum_byte (s : W5) (i : Nat) (hi : i < 20) : (s.l.flatMap word4).getD i 0 = (s.l.getD (i / 4) 0) / 2 ^ (24 - 8 * (i % 4)) % 256 := by
  have : i = 0 ∨ i = 1 ∨ i = 2 ∨ i = 3 ∨ i = 4 ∨ i = 5 ∨ i = 6 ∨ i = 7 ∨ i = 8 ∨ i = 9 ∨ i = 10 ∨ i = 11 ∨ i = 12 ∨ i = 13 ∨ i = 14 ∨ i = 15 ∨ i = 16 ∨ i = 17 ∨ i = 18 ∨ i = 19 := by omega
  rcases this with rfl | rfl | rfl | rfl | rfl | rfl | rfl | rfl | rfl | rfl | rfl | rfl | rfl | rfl | rfl | rfl | rfl | rfl | rfl | rfl
  all_goals first
    | rfl
    | (show _ % 256 = _ / 2 ^ 0 % 256; rw [Int.pow_zero, Int.ediv_one]; rfl)

section
variable {F0 : List Nat} {w0 w : World} {ps : List As}

theorem St.dropN {qs : List As} (h : St F0 w0 w (qs ++ ps)) : St F0 w0 w ps := by
  induction qs with
  | nil => exact h
  | cons q qs ih => exact ih h.drop

theorem St.stu8 {b o : Nat} {l : List Int} {i : Nat} {v : Int} {K : World → Prop} (h : St F0 w0 w (blkA b (u8s l) :: ps)) (ho : o = i) (hi : i < l.length) (hk : ∀ w', St F0 w0 w' (blkA b (u8s (l.set i v)) :: ps) → K w') : Go.Proofs.Ytkajimndclhgaaa.st w ⟨b, o, none⟩ (.int .u8 v) K := by
  subst ho
  refine h.st (by rw [u8s_length]; exact hi) trivial fun w' h => hk w' ?_
  rw [u8s_set] at h
  exact h

theorem troveref3_Sum.out {n2 n6 : Nat} {s : W5} {c : List Value} (hc : c.length = 20) (hs : okW s) {Q : Value → World → Prop} (h : St F0 w0 w (blkA n6 (u32s s.l) :: blkA n2 c :: ps))
    (hk : ∀ w', St F0 w0 w' ps → Q (.agg ⟨u8s (s.l.flatMap word4)⟩) w') : troveref3_Sum.j7 ⟨n2, 0, none⟩ ⟨n6, 0, none⟩ Q w := by
  unfold troveref3_Sum.j7
  refine h.new fun n8 w h => ?_
  rw [zc_20] at h
  unfold troveref3_Sum.j8 troveref3_Sum.j10
  have hfl : (s.l.flatMap word4).length = 20 := rfl
  refine loop1 (fun (i : Nat) (i' : Int) w => i' = i ∧ i ≤ 20 ∧ St F0 w0 w (blkA n8 (u8s ((s.l.flatMap word4).take i ++ List.replicate (20 - i) 0)) :: blkA n6 (u32s s.l) :: blkA n2 c :: ps)) (fun i => 20 - i) 0 ⟨rfl, by omega, h⟩ ?_
  clear h
  rintro i i' w I μ ⟨rfl, hi, h⟩ hin
  unfold troveref3_Sum.b1
  refine br_d (fun h1 => ?_) (fun h1 => ?_)
  · have hi20 : i < 20 := by omega
    refine ⟨by decide, ?_⟩
    rw [tdiv_nn (by omega)]
    refine lt_as (wrap_i64 (by omega) (by omega)) ?_
    refine h.at1.ldx (j := i / 4) (by omega) rfl (by omega) ?_
    refine ⟨by decide, ?_⟩
    refine lt_as (tmod_nn (by omega)) ?_
    have em : (i : Int) % 4 = (i % 4 : Nat) := by omega
    rw [em]
    refine lt_as (show IntKind.u64.wrap ((i % 4 : Nat) : Int) = (i % 4 : Nat) by rw [wrap_u64]; omega) ?_
    refine lt_as (show IntKind.u64.wrap (8 * ((i % 4 : Nat) : Int)) = (8 * (i % 4) : Nat) by rw [wrap_u64]; omega) ?_
    refine lt_as (show IntKind.u64.wrap (24 - ((8 * (i % 4) : Nat) : Int)) = (24 - 8 * (i % 4) : Nat) by rw [wrap_u64]; omega) ?_
    refine ⟨by omega, ?_⟩
    refine lt_as (shrV_nat .u32 _ (show 24 - 8 * (i % 4) ≤ 32 by omega)) ?_
    refine lt_as (wrap_u8 _) ?_
    rw [← sum_byte s i hi20]
    have hlt : ((s.l.flatMap word4).take i).length = i := by rw [List.length_take]; omega
    refine ixA_b (by omega) (by omega) ?_
    refine h.stu8 (i := i) (by omega) (by rw [List.length_append, hlt, List.length_replicate]; omega) fun w h => ?_
    refine lt_as (wrap_i64 (by omega) (by omega)) ?_
    refine ⟨⟨rfl, rfl, rfl⟩, hin (i + 1) _ _ ⟨by simp, by omega, ?_⟩ (by omega)⟩
    have es := set_next (l := (s.l.flatMap word4).take i) (k := 20 - i) (v := (s.l.flatMap word4).getD i 0) (by omega)
    rw [hlt] at es
    have et : (s.l.flatMap word4).take (i + 1) = (s.l.flatMap word4).take i ++ [(s.l.flatMap word4).getD i 0] := by
      rw [List.take_succ_eq_append_getElem (by omega)]
      congr 2
      simp [List.getD, List.getElem?_eq_getElem (show i < (s.l.flatMap word4).length by omega)]
    rw [es, show 20 - i - 1 = 20 - (i + 1) by omega, ← et] at h
    exact h
  · have : i = 20 := by omega
    subst this
    have h : St F0 w0 w (blkA n8 (u8s (s.l.flatMap word4)) :: blkA n6 (u32s s.l) :: blkA n2 c :: ps) := by
      rw [List.take_of_length_le (by omega), Nat.sub_self, List.replicate_zero, List.append_nil] at h
      exact h
    unfold troveref3_Sum.j9
    have hl20 : (u8s (s.l.flatMap word4)).length = 20 := by rw [u8s_length]; exact hfl
    refine h.ld20 hl20 ?_
    refine ⟨hl20, ?_⟩
    refine h.at2.st20 hc hl20 u8s_storable fun w h => ?_
    refine h.ld20 hl20 ?_
    exact hk w h.drop.drop.drop

theorem troveref3_Sum.blocks {n2 : Nat} {t3 : Sl} {xs : List Int} {c : List Value} (hc : c.length = 20) (hxb : allB xs) (hm : xs.length % 64 = 0) (hL : xs.length ≤ 1099511627776) {Q : Value → World → Prop} (h : St F0 w0 w (ownA 1 t3 (u8s xs) :: blkA n2 c :: ps))
    (hk : ∀ w', St F0 w0 w' ps → Q (.agg ⟨u8s ((Go.Proofs.Ytkajimndclhgaaa.hs xs (xs.length / 64)).l.flatMap word4)⟩) w') : troveref3_Sum.j5 ⟨n2, 0, none⟩ t3 Q w := by
  unfold troveref3_Sum.j5
  refine h.new fun n6 w h => ?_
  rw [zc_w5] at h
  refine ⟨rfl, ?_⟩
  have e0 : (⟨[.int .u32 1732584193, .int .u32 4023233417, .int .u32 2562383102, .int .u32 271733878, .int .u32 3285377520]⟩ : Array Value) = ⟨u32s (Go.Proofs.Ytkajimndclhgaaa.hs xs 0).l⟩ := by rw [Go.Proofs.Ytkajimndclhgaaa.hs]; rfl
  rw [e0]
  refine h.st5 (n := 5) rfl rfl u32s_storable fun w h => ?_
  unfold troveref3_Sum.j6 troveref3_Sum.j11
  have hlen := h.at1.len
  rw [u8s_length] at hlen
  have hcap := h.at1.cap (by decide)
  refine loop1 (fun (k : Nat) (i' : Int) w => i' = ((64 * k : Nat) : Int) ∧ 64 * k ≤ xs.length ∧ St F0 w0 w (blkA n6 (u32s (Go.Proofs.Ytkajimndclhgaaa.hs xs k).l) :: ownA 1 t3 (u8s xs) :: blkA n2 c :: ps)) (fun k => xs.length - 64 * k) 0 ⟨rfl, by omega, h⟩ ?_
  clear h
  rintro k i' w I μ ⟨rfl, hi, h⟩ hin
  unfold troveref3_Sum.b2
  refine br_d (fun h1 => ?_) (fun h1 => ?_)
  · have h64 : 64 * k + 64 ≤ xs.length := by omega
    refine h.drewK fun w h => ?_
    refine h.ld20 (n := 5) rfl ?_
    refine lt_as (wrap_i64 (by omega) (by omega)) ?_
    refine ⟨⟨by omega, by omega⟩, ⟨by omega, by omega⟩, lt_i ?_⟩
    have en : (((64 * k : Nat) : Int) + 64).toNat = 64 * k + 64 := by omega
    have em : (((64 * k : Nat) : Int)).toNat = 64 * k := by omega
    rw [en, em]
    have hlenb : ((xs.drop (64 * k)).take 64).length = 64 := by rw [List.length_take, List.length_drop]; omega
    refine troveref3_block.c (p := (xs.drop (64 * k)).take 64) hlenb (fun x hx => hxb x (List.mem_of_mem_drop (List.mem_of_mem_take hx))) (by show 64 * k + 64 - 64 * k ≤ t3.cap - 64 * k; omega) h (fun w' qs h => ?_) fun w h => ⟨_, rfl, ?_⟩
    · have hrd := h.dropN.at1.ord
      have hcut := hrd.cut (n := 64 * k) (m := 64 * k + 64) (by decide) (by omega) (by omega) hcap (t3.cap - 64 * k)
      have ec : ((u8s xs).drop (64 * k * 1)).take ((64 * k + 64 - 64 * k) * 1) = u8s ((xs.drop (64 * k)).take 64) := by
        rw [Nat.mul_one, Nat.mul_one, show 64 * k + 64 - 64 * k = 64 by omega]
        unfold u8s
        rw [List.map_take, List.map_drop]
      rw [ec] at hcut
      exact hcut
    refine ⟨rfl, ?_⟩
    refine h.st5 (n := 5) rfl rfl u32s_storable fun w h => ?_
    refine lt_as (wrap_i64 (by omega) (by omega)) ?_
    refine ⟨⟨rfl, rfl, rfl⟩, hin (k + 1) _ _ ⟨by omega, by omega, ?_⟩ (by omega)⟩
    rw [Go.Proofs.Ytkajimndclhgaaa.hs]
    exact h
  · have : k = xs.length / 64 := by omega
    subst this
    exact troveref3_Sum.out hc (okW_hs _ _) (h.tail fun _ _ _ h => h.drop) hk

end

end Go.Proofs.Ytkajimndclhgaaa
