/- The statements on long rows and on cuts: what their texts answer. Own work. -/
import Derived.Test.YtkajimndclhgaaaShaP
namespace Go.Proofs.Ytkajimndclhgaaa
open Go Go.Proofs
set_option linter.unusedVariables false
set_option linter.unusedSimpArgs false
attribute [local irreducible] apK cpK mkK hs sumB rounds growW

theorem trovelaw3_ShaLong.law (n cut c : Int) (W : World) (hn : (Lit.int .i64 n).wf = true) (hcut : (Lit.int .i64 cut).wf = true) (hc : (Lit.int .u8 c).wf = true) :
    Calls Try.prog 9 ⟨[.int .i64 n, .int .i64 cut, .int .u8 c]⟩ W fun e w' => e = .returned (.bool true) ∧ Mod [] W w' := by
  refine ret_k (trovelaw3_ShaLong.ok _ _ _ _ _ ?_)
  unfold trovelaw3_ShaLong
  have hb := wf_u8 hc
  refine trovelaw3_known.c (St.start0 (w := W)) fun w h => ⟨_, rfl, br_f1 ?_⟩
  unfold trovelaw3_ShaLong.j1
  refine br_d (fun _ => ⟨rfl, h.mod⟩) fun g1 => ?_
  refine br_d (fun _ => ⟨rfl, h.mod⟩) fun g2 => ?_
  refine br_d (fun _ => ⟨rfl, h.mod⟩) fun g3 => ?_
  refine br_d (fun _ => ⟨rfl, h.mod⟩) fun g4 => ?_
  obtain ⟨n, rfl⟩ : ∃ t : Nat, n = t := ⟨n.toNat, by omega⟩
  obtain ⟨u, rfl⟩ : ∃ t : Nat, cut = t := ⟨cut.toNat, by omega⟩
  refine h.makeI (n := n) rfl rfl (by omega) fun b w h1 h2 h => ?_
  unfold trovelaw3_ShaLong.j2 trovelaw3_ShaLong.j4
  refine loop1 (fun (i : Nat) (i' : Int) w' => i' = i ∧ i ≤ n ∧ St [] W w' [ownA 1 b (ivs .u8 (List.replicate i c ++ List.replicate (n - i) 0))]) (fun i => n - i) 0 ⟨rfl, by omega, by simpa using h⟩ ?_
  clear h
  rintro i i' w I μ ⟨rfl, hi, h⟩ hin
  unfold trovelaw3_ShaLong.b1
  refine br_d (fun g => ?_) (fun g => ?_)
  · refine h.sx i rfl (by simp; omega) fun w h => ?_
    refine lt_as (wrap_i64 (by omega) (by omega)) ?_
    refine ⟨⟨rfl, rfl, rfl, rfl⟩, hin (i + 1) _ _ ⟨by omega, by omega, ?_⟩ (by omega)⟩
    have es := set_next (l := List.replicate i c) (k := n - i) (v := c) (by omega)
    rw [List.length_replicate] at es
    rw [es, show n - i - 1 = n - (i + 1) by omega, ← List.replicate_succ'] at h
    exact h
  have : i = n := by omega
  subst this
  rw [Nat.sub_self, List.replicate_zero, List.append_nil] at h
  have hx : allB (List.replicate i c) := fun x hx => by rw [List.eq_of_mem_replicate hx]; exact hb
  have hxl : (List.replicate i c).length = i := by simp
  generalize List.replicate i c = xs at h hx hxl
  clear hin
  have hcap := h.cap (by decide)
  unfold trovelaw3_ShaLong.j3
  refine sha_New.c h fun hb w h => ⟨_, rfl, ?_⟩
  refine bd_i rfl (by omega) (lt_i ?_)
  haveI := h.drop.cutR b 0 u (b.cap - 0) (ys := xs.take u) (by omega) (by omega) hcap (by simp)
  refine sha_Hash_Write.d (s := ⟨cutA b.a b.cap 0 1, u - 0, b.cap - 0⟩) (zs := xs.take u) h (fun x h => hx x (List.mem_of_mem_take h)) (by simp; omega) fun w h => ⟨rfl, ?_⟩
  refine bd_i rfl (by omega) (lt_i ?_)
  haveI := h.drop.cutR b u b.len (b.cap - u) (ys := xs.drop u) (by omega) (by omega) hcap (List.take_of_length_le (by rw [List.length_drop]; omega))
  refine sha_Hash_Write.d (s := ⟨cutA b.a b.cap u 1, b.len - u, b.cap - u⟩) (zs := xs.drop u) h (fun x h => hx x (List.mem_of_mem_drop h)) (by simp; omega) fun w h => ⟨rfl, ?_⟩
  have e : [] ++ xs.take u ++ xs.drop u = xs := by simp
  rw [e] at h
  refine sha_Hash_Sum.d h (by omega) fun w h => ⟨_, rfl, ?_⟩
  refine sha_Sum.d h hx (by omega) fun w h => ⟨_, rfl, ?_⟩
  refine eqA_s (sumB_length xs) (br_t1 ?_)
  refine sha_Sum.d h hx (by omega) fun w h => ⟨_, rfl, ?_⟩
  refine troveref3_Sum.c h hx (by omega) fun w h => ⟨_, rfl, ?_⟩
  exact eqA_s (sumB_length xs) ⟨rfl, h.mod⟩

theorem trovelaw3_ShaCuts.law (s : Sl) (xs : List Int) (W : World) (hr : Rd W 1 s (u8s xs)) (hx : ∀ n ∈ xs, (Lit.int .u8 n).wf = true) (hcap : s.len ≤ s.cap) :
    Calls Try.prog 10 ⟨[.slice s.a s.len s.cap]⟩ W fun e w' => e = .returned (.bool true) ∧ Mod [] W w' := by
  refine ret_k (trovelaw3_ShaCuts.ok _ _ _ ?_)
  unfold trovelaw3_ShaCuts
  have hb : allB xs := fun x h => wf_u8 (hx x h)
  have hl := hr.1
  rw [ivs_length] at hl
  haveI hR : ∀ ps, Rdb [] W s ps 1 (u8s xs) := fun ps => Rdb.start hr
  refine trovelaw3_known.c (St.start0 (w := W)) fun w h => ⟨_, rfl, br_f1 ?_⟩
  unfold trovelaw3_ShaCuts.j1
  refine br_d (fun _ => ⟨rfl, h.mod⟩) fun g1 => ?_
  refine sha_New.c h fun ha w h => ⟨_, rfl, ?_⟩
  unfold trovelaw3_ShaCuts.j2 trovelaw3_ShaCuts.j4
  refine loop1 (fun (i : Nat) (i' : Int) w' => i' = i ∧ i ≤ xs.length ∧ St [] W w' [shA ha (xs.take i)]) (fun i => xs.length - i) 0 ⟨rfl, by omega, h⟩ ?_
  clear h
  rintro i i' w I μ ⟨rfl, hi, h⟩ hin
  unfold trovelaw3_ShaCuts.b1
  refine br_d (fun g => ?_) (fun g => ?_)
  · refine lt_as (wrap_i64 (by omega) (by omega)) ?_
    refine bd_i (n := i + 1) (by omega) (by omega) (bd_i rfl (by omega) (lt_i ?_))
    have et : (xs.drop i).take (i + 1 - i) = [xs.getD i 0] := by
      rw [show i + 1 - i = 1 by omega, List.drop_eq_getElem_cons (by omega)]
      simp only [List.getD, List.getElem?_eq_getElem (show i < xs.length by omega)]
      rfl
    haveI : ∀ ps, Rdb [] W ⟨cutA s.a s.cap i 1, i + 1 - i, s.cap - i⟩ ps 1 (u8s [xs.getD i 0]) := fun ps => (hR ps).cutAs i (i + 1) (s.cap - i) (by omega) (by omega) hcap et
    have hm : xs.getD i 0 ∈ xs := by simp [List.getD, List.getElem?_eq_getElem (show i < xs.length by omega)]
    refine sha_Hash_Write.d (s := ⟨cutA s.a s.cap i 1, i + 1 - i, s.cap - i⟩) (zs := [xs.getD i 0]) h (fun x hx => by rw [List.mem_singleton.1 hx]; exact hb _ hm) (by simp; omega) fun w h => ⟨rfl, ?_⟩
    haveI := Rdb.nil (F0 := []) (w0 := W) (ps := []) 0
    refine sha_Hash_Write.d (s := ⟨none, 0, 0⟩) (zs := []) h (fun x hx => by cases hx) (by simp; omega) fun w h => ⟨rfl, ?_⟩
    have e : xs.take i ++ [xs.getD i 0] ++ [] = xs.take (i + 1) := by
      rw [List.append_nil, List.take_succ_eq_append_getElem (by omega)]
      simp [List.getD, List.getElem?_eq_getElem (show i < xs.length by omega)]
    rw [e] at h
    refine ⟨by decide, lt_i (br_b (fun _ => ?_) (fun _ => ?_))⟩
    · refine sha_Hash_Sum.d h (by simp; omega) fun w h => ⟨_, rfl, ?_⟩
      refine lt_as (wrap_i64 (by omega) (by omega)) ?_
      exact ⟨⟨rfl, rfl⟩, hin (i + 1) _ _ ⟨by omega, by omega, h⟩ (by omega)⟩
    · refine lt_as (wrap_i64 (by omega) (by omega)) ?_
      exact ⟨⟨rfl, rfl⟩, hin (i + 1) _ _ ⟨by omega, by omega, h⟩ (by omega)⟩
  have : i = xs.length := by omega
  subst this
  rw [List.take_length] at h
  clear hin
  unfold trovelaw3_ShaCuts.j3
  refine sha_New.c h fun hc w h => ⟨_, rfl, ?_⟩
  have e2 : Int.tdiv ((s.len : Nat) : Int) 2 = ((xs.length / 2 : Nat) : Int) := by rw [tdiv_nn (by omega)]; omega
  have e3 : IntKind.i64.wrap (Int.tdiv ((s.len : Nat) : Int) 2) = ((xs.length / 2 : Nat) : Int) := by rw [e2]; exact wrap_i64 (by omega) (by omega)
  generalize hu : xs.length / 2 = u at e3
  haveI : ∀ ps, Rdb [] W ⟨cutA s.a s.cap 0 1, u - 0, s.cap - 0⟩ ps 1 (u8s (xs.take u)) := fun ps => (hR ps).cutAs 0 u (s.cap - 0) (by omega) (by omega) hcap (by simp)
  haveI : ∀ ps, Rdb [] W ⟨cutA s.a s.cap u 1, s.len - u, s.cap - u⟩ ps 1 (u8s (xs.drop u)) := fun ps => (hR ps).cutAs u s.len (s.cap - u) (by omega) (by omega) hcap (List.take_of_length_le (by rw [List.length_drop]; omega))
  have b1 : allB (xs.take u) := fun x h => hb x (List.mem_of_mem_take h)
  have b2 : allB (xs.drop u) := fun x h => hb x (List.mem_of_mem_drop h)
  have e : [] ++ xs.take u ++ xs.drop u = xs := by simp
  refine ⟨by decide, lt_as e3 (bd_i rfl (by omega) (lt_i ?_))⟩
  refine sha_Hash_Write.d (s := ⟨cutA s.a s.cap 0 1, u - 0, s.cap - 0⟩) (zs := xs.take u) h b1 (by simp; omega) fun w h => ⟨rfl, ?_⟩
  refine sha_Hash_Twin.d h fun hd w h => ⟨_, rfl, ?_⟩
  refine ⟨by decide, lt_as e3 (bd_i rfl (by omega) (lt_i ?_))⟩
  refine sha_Hash_Write.d (s := ⟨cutA s.a s.cap u 1, s.len - u, s.cap - u⟩) (zs := xs.drop u) h b2 (by simp; omega) fun w h => ⟨rfl, br_f1 ?_⟩
  refine ⟨by decide, lt_as e3 (bd_i rfl (by omega) (lt_i ?_))⟩
  refine sha_Hash_Write.d (s := ⟨cutA s.a s.cap u 1, s.len - u, s.cap - u⟩) (zs := xs.drop u) h b2 (by simp; omega) fun w h => ⟨rfl, ?_⟩
  rw [e] at h
  refine sha_Sum.d h hb (by omega) fun w h => ⟨_, rfl, ?_⟩
  refine h.put20 fun nb w h => ?_
  refine h.drewK fun w h => ?_
  have l20 := sumB_length xs
  have h30 : xs.length ≤ 34359738368 := by omega
  repeat' first
    | (refine sha_Hash_Sum.d (by assumption) h30 fun w h => ⟨_, rfl, ?_⟩)
    | (refine St.lA (by assumption) (sumB_len _) ?_)
    | (refine eqA_s l20 (br_t1 ?_))
    | (refine sha_Hash_Len.d (by assumption) ⟨_, rfl, ?_⟩)
    | (refine ⟨?_, St.mod (by assumption)⟩; rw [show ((xs.length : Int) == ((s.len : Nat) : Int)) = true by simp; omega])
    | refine ⟨?_, ?_⟩

end Go.Proofs.Ytkajimndclhgaaa
