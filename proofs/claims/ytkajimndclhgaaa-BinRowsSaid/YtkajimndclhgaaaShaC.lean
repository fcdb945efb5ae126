/- The hash: what its methods do to it. Own work. -/
import Derived.Test.YtkajimndclhgaaaShaB
import Derived.Test.YtkajimndclhgaaaGBinP
namespace Go.Proofs.Ytkajimndclhgaaa
open Go Go.Proofs
set_option linter.unusedVariables false
set_option linter.unusedSimpArgs false
attribute [local irreducible] apK cpK mkK hs

def cellsH (s : W5) (rest : List Int) (n : Int) : List Value := u32s s.l ++ (u8s rest ++ [.int .i64 n])

theorem W5.l_length (s : W5) : s.l.length = 5 := rfl

theorem cellsH_n {s : W5} {rest : List Int} {n : Int} (h : rest.length = 64) : (cellsH s rest n)[69]? = some (.int .i64 n) := by
  unfold cellsH
  rw [List.getElem?_append_right (by rw [u32s_length, W5.l_length]; omega), u32s_length, W5.l_length, List.getElem?_append_right (by rw [u8s_length]; omega), u8s_length, h]
  rfl

theorem cellsH_length {s : W5} {rest : List Int} {n : Int} (h : rest.length = 64) : (cellsH s rest n).length = 70 := by
  unfold cellsH
  rw [List.length_append, List.length_append, u32s_length, u8s_length, W5.l_length, h]
  rfl

theorem cellsH_setn {s : W5} {rest : List Int} {n m : Int} (h : rest.length = 64) : (cellsH s rest n).set 69 (.int .i64 m) = cellsH s rest m := by
  unfold cellsH
  rw [List.set_append_right _ _ (by rw [u32s_length, W5.l_length]; omega), u32s_length, W5.l_length, List.set_append_right _ _ (by rw [u8s_length]; omega), u8s_length, h]
  rfl

theorem cellsH_set {s : W5} {rest : List Int} {n c : Int} {k : Nat} (h : rest.length = 64) (hk : k < 64) : (cellsH s rest n).set (5 + k) (.int .u8 c) = cellsH s (rest.set k c) n := by
  unfold cellsH
  rw [List.set_append_right _ _ (by rw [u32s_length, W5.l_length]; omega), u32s_length, W5.l_length, show 5 + k - 5 = k by omega, List.set_append_left _ _ (by rw [u8s_length]; omega), u8s_set]

theorem cellsH_rest {s : W5} {rest : List Int} {n : Int} (h : rest.length = 64) {i : Nat} (hi : i < 64) : (cellsH s rest n)[5 + i]? = (u8s rest)[i]? := by
  unfold cellsH
  rw [List.getElem?_append_right (by rw [u32s_length, W5.l_length]; omega), u32s_length, W5.l_length, show 5 + i - 5 = i by omega, List.getElem?_append_left (by rw [u8s_length]; omega)]

/-- at hb stands a hash of the bytes xs -/
def shA (hb : Nat) (xs : List Int) : As := exA fun rest : List Int => ifA (rest.length = 64 ∧ rest.take (xs.length % 64) = xs.drop (64 * (xs.length / 64)) ∧ allB rest) <| blkA hb (cellsH (Go.Proofs.Ytkajimndclhgaaa.hs xs (xs.length / 64)) rest (xs.length : Int))

section
variable {F0 : List Nat} {w0 w : World} {ps : List As}

theorem shA_o {hb : Nat} {xs : List Int} (h : St F0 w0 w (shA hb xs :: ps)) : ∃ rest : List Int, rest.length = 64 ∧ rest.take (xs.length % 64) = xs.drop (64 * (xs.length / 64)) ∧ allB rest ∧ St F0 w0 w (blkA hb (cellsH (hs xs (xs.length / 64)) rest (xs.length : Int)) :: ps) := by
  obtain ⟨rest, h⟩ := h.exE
  obtain ⟨⟨h1, h2, h3⟩, h⟩ := h.ifE
  exact ⟨rest, h1, h2, h3, h⟩

theorem shA_i {hb : Nat} {xs rest : List Int} (h1 : rest.length = 64) (h2 : rest.take (xs.length % 64) = xs.drop (64 * (xs.length / 64))) (h3 : allB rest) (h : St F0 w0 w (blkA hb (cellsH (hs xs (xs.length / 64)) rest (xs.length : Int)) :: ps)) : St F0 w0 w (shA hb xs :: ps) :=
  (h.ifI ⟨h1, h2, h3⟩).exI (p := fun rest : List Int => ifA (rest.length = 64 ∧ rest.take (xs.length % 64) = xs.drop (64 * (xs.length / 64)) ∧ allB rest) <| blkA hb (cellsH (hs xs (xs.length / 64)) rest (xs.length : Int))) rest

theorem allB_set {l : List Int} {k : Nat} {c : Int} (h : allB l) (hc : 0 ≤ c ∧ c < 256) : allB (l.set k c) := by
  intro x hx
  rcases List.mem_or_eq_of_mem_set hx with h1 | h1
  · exact h x h1
  · subst h1; exact hc

theorem sha_Hash_Write.c {hb : Nat} {xs zs : List Int} {s : Sl} {K : Ending → World → Prop} (h : St F0 w0 w (shA hb xs :: ps)) (hr : ∀ w' p, St F0 w0 w' (p :: ps) → Rd w' 1 s (u8s zs)) (hz : allB zs) (hL : xs.length + zs.length ≤ 1099511627776)
    (hk : ∀ w', St F0 w0 w' (shA hb (xs ++ zs) :: ps) → K (.returned (.tuple ⟨[]⟩)) w') : Calls Try.prog 60 ⟨[.pointer (some ⟨hb, 0, none⟩), .slice s.a s.len s.cap]⟩ w K := by
  have hs0 := (hr w _ h).1
  rw [u8s_length] at hs0
  refine ret_k (sha_Hash_Write.ok _ _ _ _ ?_)
  unfold sha_Hash_Write sha_Hash_Write.j1
  refine loop1 (fun (i : Nat) (i' : Int) w => i' = i ∧ i ≤ zs.length ∧ St F0 w0 w (shA hb (xs ++ zs.take i) :: ps)) (fun i => zs.length - i) 0 ⟨rfl, by omega, by simpa using h⟩ ?_
  clear h
  rintro i i' w I μ ⟨rfl, hi, h⟩ hin
  unfold sha_Hash_Write.b1
  refine br_d (fun h1 => ?_) (fun h1 => ?_)
  · have hiz : i < zs.length := by omega
    have ei : ((i : Int)).toNat * 1 = i := by omega
    refine (hr w _ h).ix (by decide) (by omega) (by omega) fun a ha => ?_
    rw [ei]
    refine (hr w _ h).ldI (n := zs[i]) ha (by simp [u8s, hiz]) ?_
    have hcb := hz zs[i] (List.getElem_mem hiz)
    have htk : xs ++ zs.take (i + 1) = (xs ++ zs.take i) ++ [zs[i]] := by rw [List.take_succ_eq_append_getElem hiz, List.append_assoc]
    have hlen : (xs ++ zs.take i).length ≤ 1099511627776 := by rw [List.length_append, List.length_take]; omega
    generalize hy : xs ++ zs.take i = ys at h htk hlen
    generalize zs[i] = c at hcb htk
    refine h.drewK fun w h => ?_
    obtain ⟨rest, r1, r2, r3, h⟩ := shA_o h
    refine nz_i (h.blk.ldI (o := 69) (cellsH_n r1) ?_)
    refine ⟨by decide, ?_⟩
    refine lt_as (tmod_nn (by omega)) ?_
    have em : (ys.length : Int) % 64 = (ys.length % 64 : Nat) := by omega
    rw [em]
    have hk64 : ys.length % 64 < 64 := Nat.mod_lt _ (by decide)
    refine nz_i (ixA_b (by omega) (by omega) ?_)
    have eo : 0 + 5 + (((ys.length % 64 : Nat) : Int)).toNat * 1 = 5 + ys.length % 64 := by omega
    rw [eo]
    refine h.st (by rw [cellsH_length r1]; omega) trivial fun w h => ?_
    rw [cellsH_set r1 hk64] at h
    have r1' : (rest.set (ys.length % 64) c).length = 64 := by rw [List.length_set]; exact r1
    refine nz_i (h.blk.ldI (o := 69) (cellsH_n r1') ?_)
    refine lt_as (wrap_i64 (by omega) (by omega)) ?_
    refine nz_i (h.st (o := 69) (by rw [cellsH_length r1']; omega) trivial fun w h => ?_)
    rw [cellsH_setn r1'] at h
    refine nz_i (h.blk.ldI (o := 69) (cellsH_n r1') ?_)
    refine ⟨by decide, ?_⟩
    refine lt_as (tmod_nn (by omega)) ?_
    have r3' := allB_set (k := ys.length % 64) r3 hcb
    have r2' : (rest.set (ys.length % 64) c).take (ys.length % 64 + 1) = (ys ++ [c]).drop (64 * (ys.length / 64)) := by
      rw [List.take_succ_eq_append_getElem (by omega), List.getElem_set_self, List.take_set_of_le (Nat.le_refl _), r2, List.drop_append_of_le_length (by omega)]
    have hl1 : (ys ++ [c]).length = ys.length + 1 := by simp
    refine br_b (fun h2 => ?_) (fun h2 => ?_)
    · have h2 : ((ys.length : Int) + 1) % 64 = 0 := by simpa using h2
      refine nz_i (h.blk.ldA (cs := ⟨u8s (rest.set (ys.length % 64) c)⟩) (by show (u8s _).length = 64; rw [u8s_length, r1']) (fun j hj => by rw [arr_get, Nat.zero_add, cellsH_rest r1' hj]) ?_)
      unfold cellsH at h
      refine sha_Hash_eat.c r1' r3' h fun w h => ⟨rfl, ?_⟩
      refine lt_as (wrap_i64 (by omega) (by omega)) ?_
      refine ⟨⟨rfl, rfl, rfl⟩, hin (i + 1) _ _ ⟨by simp, by omega, ?_⟩ (by omega)⟩
      rw [htk]
      refine shA_i r1' ?_ r3' ?_
      · rw [hl1, show (ys.length + 1) % 64 = 0 by omega, List.take_zero, List.drop_eq_nil_of_le (by rw [hl1]; omega)]
      · rw [hl1, show (ys.length + 1) / 64 = ys.length / 64 + 1 by omega, hs, hs_front ys [c] _ (by omega)]
        have e : ((ys ++ [c]).drop (64 * (ys.length / 64))).take 64 = rest.set (ys.length % 64) c := by
          rw [← r2', List.take_of_length_le (l := (rest.set (ys.length % 64) c)) (by omega), List.take_of_length_le (by omega)]
        rw [e]
        exact h
    · have h2 : ¬ ((ys.length : Int) + 1) % 64 = 0 := by simpa using h2
      refine lt_as (wrap_i64 (by omega) (by omega)) ?_
      refine ⟨⟨rfl, rfl, rfl⟩, hin (i + 1) _ _ ⟨by simp, by omega, ?_⟩ (by omega)⟩
      rw [htk]
      refine shA_i r1' ?_ r3' ?_
      · rw [hl1, show (ys.length + 1) % 64 = ys.length % 64 + 1 by omega, show (ys.length + 1) / 64 = ys.length / 64 by omega]
        exact r2'
      · rw [hl1, show (ys.length + 1) / 64 = ys.length / 64 by omega, hs_front ys [c] _ (by omega)]
        exact h
  · have : i = zs.length := by omega
    subst this
    rw [List.take_length] at h
    exact hk w h

theorem sha_Hash_Len.c {hb : Nat} {xs : List Int} {K : Ending → World → Prop} (h : St F0 w0 w (shA hb xs :: ps)) (hk : K (.returned (.int .i64 xs.length)) w) : Calls Try.prog 61 ⟨[.pointer (some ⟨hb, 0, none⟩)]⟩ w K := by
  refine ret_k (sha_Hash_Len.ok _ _ _ ?_)
  unfold sha_Hash_Len
  obtain ⟨rest, r1, r2, r3, h⟩ := shA_o h
  exact nz_i (h.blk.ldI (o := 69) (cellsH_n r1) hk)

end

end Go.Proofs.Ytkajimndclhgaaa
