/- The document's SHA-1: a block, whole. Own work. -/
import Derived.Test.YtkajimndclhgaaaShaI
namespace Go.Proofs.Ytkajimndclhgaaa
open Go Go.Proofs
set_option linter.unusedVariables false
set_option linter.unusedSimpArgs false
attribute [local irreducible] apK cpK mkK hs sumB rounds growW

section
variable {F0 : List Nat} {w0 w : World} {ps : List As}

theorem rep_u32 (n : Nat) : List.replicate n (Value.int .u32 0) = u32s (List.replicate n 0) := by
  unfold u32s
  rw [List.map_replicate]

theorem base_take {p : List Int} {t : Nat} (ht : t < 16) : (base16 p).take (t + 1) = (base16 p).take t ++ [be ((p.drop (4 * t)).take 4)] := by
  have hl : (base16 p).length = 16 := by simp [base16]
  rw [List.take_succ_eq_append_getElem (by omega)]
  congr 1
  simp [base16]

theorem set_next {l : List Int} {k : Nat} {v : Int} (hk : 0 < k) : (l ++ List.replicate k 0).set l.length v = (l ++ [v]) ++ List.replicate (k - 1) 0 := by
  rw [List.set_append_right _ _ (Nat.le_refl _), Nat.sub_self]
  cases k with
  | zero => omega
  | succ k =>
    rw [List.replicate_succ, List.set_cons_zero, List.append_assoc]
    rfl

theorem troveref3_block.c {sl : Sl} {s : W5} {p : List Int} {K : Ending → World → Prop} (hp : p.length = 64) (hpb : allB p) (hcap : sl.len ≤ sl.cap) (h : St F0 w0 w ps) (hr : ∀ w' qs, St F0 w0 w' (qs ++ ps) → Rd w' 1 sl (u8s p))
    (hk : ∀ w', St F0 w0 w' ps → K (.returned (.agg ⟨u32s (blkF s p).l⟩)) w') : Calls Try.prog 126 ⟨[.agg ⟨u32s s.l⟩, .slice sl.a sl.len sl.cap]⟩ w K := by
  unfold blkF at hk
  have hsl := (hr w [] h).1
  rw [u8s_length] at hsl
  refine ret_k (troveref3_block.ok _ _ _ _ ?_)
  unfold troveref3_block
  refine h.new fun n2 w h => ?_
  refine h.new fun n4 w h => ?_
  rw [zc_w5] at h
  refine h.make1 (n := 80) zc_u32 rfl rfl (by decide) bytes_u32 fun t5 w hl5 hc5 h => ?_
  rw [rep_u32] at h
  unfold troveref3_block.j1 troveref3_block.j15
  have hb16 : (base16 p).length = 16 := by simp [base16]
  refine loop1 (fun (t : Nat) (t' : Int) w => t' = t ∧ t ≤ 16 ∧ St F0 w0 w (ownA 1 t5 (u32s ((base16 p).take t ++ List.replicate (80 - t) 0)) :: blkA n4 (u32s [0, 0, 0, 0, 0]) :: blkA n2 (u32s s.l) :: ps)) (fun t => 16 - t) 0 ⟨rfl, by omega, h⟩ ?_
  clear h
  rintro t t' w I μ ⟨rfl, ht, h⟩ hin
  unfold troveref3_block.b4
  refine br_d (fun h1 => ?_) (fun h1 => ?_)
  · refine lt_as (wrap_i64 (by omega) (by omega)) ?_
    refine ⟨⟨by omega, by omega⟩, lt_i ?_⟩
    have hrd := hr w [_, _, _] h
    have e4 : (4 * (t : Int)).toNat = 4 * t := by omega
    rw [e4]
    have hcut := hrd.cut (n := 4 * t) (m := sl.len) (by decide) (Nat.le_refl _) (by omega) hcap (sl.cap - 4 * t)
    have ec : ((u8s p).drop (4 * t * 1)).take ((sl.len - 4 * t) * 1) = u8s (p.drop (4 * t)) := by
      rw [Nat.mul_one, Nat.mul_one, List.take_of_length_le (by rw [List.length_drop, u8s_length]; omega)]
      unfold u8s
      rw [List.map_drop]
    rw [ec] at hcut
    refine troveref3_word.c hcut (fun x hx => hpb x (List.mem_of_mem_drop hx)) (by rw [List.length_drop]; omega) fun w1 hm => ⟨_, rfl, ?_⟩
    have h := h.skip hm
    have hlt : ((base16 p).take t).length = t := by rw [List.length_take]; omega
    refine h.sto32 (j := t) rfl (by rw [List.length_append, hlt, List.length_replicate]; omega) fun w h => ?_
    refine lt_as (wrap_i64 (by omega) (by omega)) ?_
    refine ⟨⟨rfl, rfl, rfl, rfl⟩, hin (t + 1) _ _ ⟨by simp, by omega, ?_⟩ (by omega)⟩
    have es := set_next (l := (base16 p).take t) (k := 80 - t) (v := be ((p.drop (4 * t)).take 4)) (by omega)
    rw [hlt] at es
    rw [es, show 80 - t - 1 = 80 - (t + 1) by omega, ← base_take (by omega)] at h
    exact h
  have : t = 16 := by omega
  subst this
  rw [List.take_of_length_le (by omega)] at h
  clear hin ht h1
  unfold troveref3_block.j2 troveref3_block.j14
  refine loop1 (fun (t : Nat) (t' : Int) w => t' = (t : Int) + 16 ∧ t ≤ 64 ∧ St F0 w0 w (ownA 1 t5 (u32s (growW t (base16 p) ++ List.replicate (64 - t) 0)) :: blkA n4 (u32s [0, 0, 0, 0, 0]) :: blkA n2 (u32s s.l) :: ps)) (fun t => 64 - t) 0 ⟨rfl, by omega, by rw [growW]; exact h⟩ ?_
  clear h
  rintro t t' w I μ ⟨rfl, ht, h⟩ hin
  have hgl : (growW t (base16 p)).length = t + 16 := by rw [growW_length, hb16]; omega
  unfold troveref3_block.b3
  refine br_d (fun h1 => ?_) (fun h1 => ?_)
  · refine h.drewK fun w h => ?_
    have hlen : (growW t (base16 p) ++ List.replicate (64 - t) (0 : Int)).length = 80 := by rw [List.length_append, hgl, List.length_replicate]; omega
    refine lt_as (wrap_i64 (by omega) (by omega)) ?_
    refine h.ldo32 (j := t + 13) (by omega) (by omega) ?_
    refine lt_as (wrap_i64 (by omega) (by omega)) ?_
    refine h.ldo32 (j := t + 8) (by omega) (by omega) ?_
    refine lt_i ?_
    refine lt_as (wrap_i64 (by omega) (by omega)) ?_
    refine h.ldo32 (j := t + 2) (by omega) (by omega) ?_
    refine lt_i ?_
    refine lt_as (wrap_i64 (by omega) (by omega)) ?_
    refine h.ldo32 (j := t) (by omega) (by omega) ?_
    refine lt_i ?_
    refine troveref3_left.c (by decide) ⟨_, rfl, ?_⟩
    refine h.sto32 (j := t + 16) (by omega) (by omega) fun w h => ?_
    refine lt_as (wrap_i64 (by omega) (by omega)) ?_
    refine ⟨⟨rfl, rfl, rfl⟩, hin (t + 1) _ _ ⟨by omega, by omega, ?_⟩ (by omega)⟩
    rw [getD_append (by omega), getD_append (by omega), getD_append (by omega), getD_append (by omega)] at h
    have es := set_next (l := growW t (base16 p)) (k := 64 - t) (v := nextW (growW t (base16 p))) (by omega)
    rw [hgl, ← growW_succ, show 64 - t - 1 = 64 - (t + 1) by omega] at es
    rw [← es]
    unfold nextW
    rw [hgl]
    exact h
  have : t = 64 := by omega
  subst this
  clear hin ht h1
  rw [Nat.sub_self, List.replicate_zero, List.append_nil] at h
  unfold troveref3_block.j3
  refine h.at2.ld20 rfl ?_
  refine h.new fun n8 w h => ?_
  rw [zc_w5] at h
  refine ⟨rfl, ?_⟩
  refine h.st5 rfl rfl u32s_storable fun w h => ?_
  exact troveref3_block.loop (by rw [hgl]) rfl (h.tail fun _ _ _ h => h.tail fun _ _ _ h => h.at1) hk

end

end Go.Proofs.Ytkajimndclhgaaa
