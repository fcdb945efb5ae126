/- The statement on bytes written in parts: what its text answers. Own work. -/
import Derived.Test.YtkajimndclhgaaaShaP
import Derived.Test.YtkajimndclhgaaaOpn
namespace Go.Proofs.Ytkajimndclhgaaa
open Go Go.Proofs
set_option linter.unusedVariables false
set_option linter.unusedSimpArgs false
attribute [local irreducible] apK cpK mkK hs sumB rounds growW

theorem sls_get {L : List (Sl × List Int)} {i : Nat} (h : i < L.length) : (sls L)[i]? = some (.slice L[i].1.a L[i].1.len L[i].1.cap) := by simp [sls, h]

/-- a slice out of a slice of slices -/
theorem Rd.lslice {w : World} {s : Sl} {L : List (Sl × List Int)} {i : Int} {K : Sl → Prop} (h : Rd w 1 s (sls L)) (j : Nat) (hi : i = j) (hj : j < L.length) (hk : K L[j].1) : ixS s.a s.len i 1 fun a => ldL w a K := by
  subst hi
  have hl := h.1
  have hl2 : (sls L).length = L.length := by simp [sls]
  refine h.ix (by decide) (by omega) (by omega) fun a ha => ?_
  rw [show ((j : Int)).toNat * 1 = j by omega]
  exact ldL_c (n := L[j].1) (by rw [h.cell ha (by omega)]; exact sls_get hj) hk

def catL (L : List (Sl × List Int)) : List Int := L.flatMap fun x => x.2

theorem catL_take {L : List (Sl × List Int)} {i : Nat} (h : i < L.length) : catL (L.take (i + 1)) = catL (L.take i) ++ L[i].2 := by
  unfold catL
  rw [List.take_succ_eq_append_getElem h, List.flatMap_append, List.flatMap_singleton]

theorem trovelaw3_ShaParts.law (s s2 : Sl) (L : List (Sl × List Int)) (ys : List Int) (W : World) (hr : Rd W 1 s (sls L)) (hr2 : Rd W 1 s2 (u8s ys)) (hL : ∀ y ∈ L, Rd W 1 y.1 (y.2.map (Value.int .u8)) ∧ (∀ n ∈ y.2, (Lit.int .u8 n).wf = true) ∧ y.1.len ≤ y.1.cap) (hy : ∀ n ∈ ys, (Lit.int .u8 n).wf = true) :
    Calls Try.prog 8 ⟨[.slice s.a s.len s.cap, .slice s2.a s2.len s2.cap]⟩ W fun e w' => e = .returned (.bool true) ∧ Mod [] W w' := by
  refine ret_k (trovelaw3_ShaParts.ok _ _ _ _ ?_)
  unfold trovelaw3_ShaParts trovelaw3_ShaParts.j1
  have hyb : allB ys := fun x h => wf_u8 (hy x h)
  have hl := hr.1
  have hl2 := hr2.1
  rw [ivs_length] at hl2
  have hl1 : (sls L).length = L.length := by simp [sls]
  haveI hR2 : ∀ ps, Rdb [] W s2 ps 1 (u8s ys) := fun ps => Rdb.start hr2
  refine trovelaw3_known.c (St.start0 (w := W)) fun w h => ⟨_, rfl, br_f1 ?_⟩
  refine br_d (fun _ => ⟨rfl, h.mod⟩) fun g1 => ?_
  refine br_d (fun _ => ⟨rfl, h.mod⟩) fun g2 => ?_
  unfold trovelaw3_ShaParts.j2
  refine sha_New.c h fun hb w h => ⟨_, rfl, ?_⟩
  unfold trovelaw3_ShaParts.j3 trovelaw3_ShaParts.j5
  have h : St [] W w [shA hb [], ownA 1 ⟨none, 0, 0⟩ []] := (h.nil 1).sub
  refine loop2 (fun (i : Nat) (o : Sl) (i' : Int) w' => i' = i ∧ i ≤ L.length ∧ (catL (L.take i)).length ≤ 200 * i ∧ allB (catL (L.take i)) ∧ St [] W w' [shA hb (catL (L.take i)), ownA 1 o (u8s (catL (L.take i)))]) (fun i => L.length - i) 0 ⟨rfl, by omega, by simp [catL], fun x hx => by simp [catL] at hx, h⟩ ?_
  clear h
  rintro i o i' w I μ ⟨rfl, hi, hcl, hcb, h⟩ hin
  have hol := h.at1.len
  rw [ivs_length] at hol
  unfold trovelaw3_ShaParts.b1
  refine br_d (fun g => ?_) (fun g => ?_)
  · have hiL : i < L.length := by omega
    have rd : ∀ {w}, St [] W w [] → Rd w 1 s (sls L) := fun h => hr.keep h.mod (by simp)
    obtain ⟨y1, y2, y3⟩ := hL L[i] (List.getElem_mem hiL)
    have yb : allB L[i].2 := fun x h => wf_u8 (y2 x h)
    have yl := y1.1
    rw [ivs_length] at yl
    haveI : ∀ ps, Rdb [] W L[i].1 ps 1 (u8s L[i].2) := fun ps => Rdb.start y1
    refine (rd h.sub).lslice i rfl hiL (br_d (fun _ => ⟨rfl, h.mod⟩) fun g3 => ?_)
    refine (rd h.sub).lslice i rfl hiL ?_
    refine sha_Hash_Write.d h yb (by omega) fun w h => ⟨rfl, ?_⟩
    refine (rd h.sub).lslice i rfl hiL ?_
    refine h.appI (s := o) (s2 := L[i].1) (by omega) fun o2 w h => ?_
    rw [← catL_take hiL] at h
    have hcl : (catL (L.take (i + 1))).length ≤ 200 * (i + 1) := by rw [catL_take hiL, List.length_append]; omega
    have hcb : allB (catL (L.take (i + 1))) := by
      rw [catL_take hiL]
      intro x hx
      rcases List.mem_append.1 hx with hx | hx
      · exact hcb x hx
      · exact yb x hx
    have hol2 := h.len
    rw [ivs_length] at hol2
    refine sha_Hash_Len.d h ⟨_, rfl, ?_⟩
    refine br_no (by simp; omega) ?_
    refine sha_Hash_Sum.d h (by omega) fun w h => ⟨_, rfl, ?_⟩
    refine troveref3_Sum.c h hcb (by omega) fun w h => ⟨_, rfl, ?_⟩
    refine eqA_s (sumB_length _) (br_f1 ?_)
    refine lt_as (wrap_i64 (by omega) (by omega)) ?_
    exact ⟨⟨rfl, rfl, rfl⟩, hin (i + 1) _ _ _ ⟨by omega, by omega, hcl, hcb, h.sub⟩ (by omega)⟩
  have : i = L.length := by omega
  subst this
  rw [List.take_length] at h hcl hcb hol
  clear hin
  generalize catL L = xs at h hcl hcb hol
  unfold trovelaw3_ShaParts.j4
  refine sha_Hash_Twin.d h fun tb w h => ⟨_, rfl, br_f1 ?_⟩
  refine sha_Hash_Write.d h hyb (by omega) fun w h => ⟨rfl, ?_⟩
  refine sha_Hash_Sum.d h (by omega) fun w h => ⟨_, rfl, ?_⟩
  refine h.put20 fun nb w h => ?_
  refine h.drewK fun w h => ?_
  have b3 : allB (xs ++ ys) := fun x hx => by
    rcases List.mem_append.1 hx with hx | hx
    · exact hcb x hx
    · exact hyb x hx
  have l20 := sumB_length xs
  have l21 := sumB_length (xs ++ ys)
  have h30 : xs.length ≤ 34359738368 := by omega
  have h31 : (xs ++ ys).length ≤ 34359738368 := by rw [List.length_append]; omega
  have el : ((xs.length : Int) == ((o.len : Nat) : Int)) = true := by simp; omega
  refine ⟨?_, ?_⟩
  · refine sha_Hash_Sum.d h h31 fun w h => ⟨_, rfl, ?_⟩
    refine h.clone (k := .u8) (s2 := o) (by omega) fun s1 w h => ?_
    refine h.appI (s2 := s2) (by omega) fun s3 w h => ?_
    refine troveref3_Sum.c h b3 h31 fun w h => ⟨_, rfl, ?_⟩
    refine eqA_s l21 (br_t1 ?_)
    repeat' first
      | (refine sha_Hash_Sum.d (by assumption) h30 fun w h => ⟨_, rfl, ?_⟩)
      | (refine St.lA (by assumption) (sumB_len _) ?_)
      | (refine eqA_s l20 (br_t1 ?_))
      | (refine sha_Hash_Len.d (by assumption) ⟨_, rfl, br_is el ?_⟩)
      | (refine troveref3_Sum.c (xs := xs) (by assumption) hcb h30 fun w h => ⟨_, rfl, ?_⟩)
      | (refine eqA_s l20 ?_; exact ⟨rfl, St.mod (by assumption)⟩)
      | refine ⟨?_, ?_⟩
  · refine h.new fun n1 w h => ?_
    have h := h.own0
    refine sha_Hash_Sum.d h h31 fun w h => ⟨_, rfl, ?_⟩
    refine St.appI (s := ⟨some ⟨n1, 0, none⟩, 0, 0⟩) (zs := []) (s2 := o) (k := .u8) (ys := xs) h (by simp; omega) fun s1 w h => ?_
    refine h.appI (s2 := s2) (by simp; omega) fun s3 w h => ?_
    rw [List.nil_append] at h
    refine troveref3_Sum.c h b3 h31 fun w h => ⟨_, rfl, ?_⟩
    refine eqA_s l21 (br_t1 ?_)
    repeat' first
      | (refine sha_Hash_Sum.d (by assumption) h30 fun w h => ⟨_, rfl, ?_⟩)
      | (refine St.lA (by assumption) (sumB_len _) ?_)
      | (refine eqA_s l20 (br_t1 ?_))
      | (refine sha_Hash_Len.d (by assumption) ⟨_, rfl, br_is el ?_⟩)
      | (refine troveref3_Sum.c (xs := xs) (by assumption) hcb h30 fun w h => ⟨_, rfl, ?_⟩)
      | (refine eqA_s l20 ?_; exact ⟨rfl, St.mod (by assumption)⟩)
      | refine ⟨?_, ?_⟩

end Go.Proofs.Ytkajimndclhgaaa
