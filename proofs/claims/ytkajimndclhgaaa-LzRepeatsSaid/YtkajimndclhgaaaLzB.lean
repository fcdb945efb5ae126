/- Tokens: checked, counted, expanded: the document's texts. Own work. -/
import Derived.Test.YtkajimndclhgaaaLzA
namespace Go.Proofs.Ytkajimndclhgaaa
open Go Go.Proofs
set_option linter.unusedVariables false
set_option linter.unusedSimpArgs false
attribute [local irreducible] apK cpK mkK br

section
variable {F0 : List Nat} {w0 w : World} {ps rest : List As} {L : List Tk}

theorem troveref8_Check.c {s : Sl} {K : Ending → World → Prop} (h : St F0 w0 w ps) [Rdb F0 w0 s ps 3 (tks L)] (hL : L.length ≤ 1000000000)
    (hk : ∀ w', St F0 w0 w' ps → K (.returned (.int .i64 (tkChk 0 L))) w') : Calls Try.prog 69 ⟨[.slice s.a s.len s.cap]⟩ w K := by
  have hl := (h.rdb s).1
  rw [tri_length] at hl
  refine ret_k (troveref8_Check.ok _ _ _ ?_)
  unfold troveref8_Check troveref8_Check.j1 troveref8_Check.j3
  refine loop2 (fun (a : Nat × Nat) (n i' : Int) w' => i' = a.1 ∧ a.1 ≤ L.length ∧ n = (a.2 : Int) ∧ a.2 ≤ 258 * a.1 ∧ tkChk a.2 (L.drop a.1) = tkChk 0 L ∧ St F0 w0 w' ps) (fun a => L.length - a.1) (0, 0) ⟨rfl, by simp, by simp, by simp, by simp, h⟩ ?_
  clear h
  rintro ⟨i, n⟩ n' i' wL I μ ⟨rfl, hi, rfl, hn, hc, h⟩ hin
  simp only at hi hn hc h hin ⊢
  unfold troveref8_Check.b1
  refine br_d (fun g => ?_) (fun g => ?_)
  · have hil : i < L.length := by omega
    rw [drop_tk hil, tkChk] at hc
    unfold troveref8_Check.j4
    refine h.ltok (s := s) i rfl hil ?_
    generalize L[i] = t at hc ⊢
    refine h.rtokN fun nb w h => ?_
    have yes : tkBad n t → K (.returned (.int .i64 2)) w := fun e => by
      rw [if_pos e] at hc
      rw [← hc] at hk
      exact hk w h.drop
    have next : ¬ tkBad n t → ∀ x : Int, x = (n : Int) + (tkN t : Int) → tkN t ≤ 258 → troveref8_Check.j5 s x (i : Int) (fun v w' => K (.returned v) w') (fun l_0' n_3' i_4' w' => (l_0' = s) ∧ I n_3' i_4' w' ∧ μ n_3' i_4' w' < μ (n : Int) (i : Int) wL) w := by
      intro e x hx hle
      rw [if_neg e] at hc
      subst hx
      unfold troveref8_Check.j5
      refine lt_as (wrap_i64 (by omega) (by omega)) ?_
      exact ⟨rfl, hin (i + 1, n + tkN t) _ _ _ ⟨by simp, by simp only; omega, by simp, by simp only; omega, hc, h.drop⟩ (by simp only; omega)⟩
    have big : ¬ (t.2.1 = 0 ∧ t.2.2 = 0) → troveref8_Check.j6 s (n : Int) (i : Int) ⟨nb, 0, none⟩ (fun v w' => K (.returned v) w') (fun l_0' n_3' i_4' w' => (l_0' = s) ∧ I n_3' i_4' w' ∧ μ n_3' i_4' w' < μ (n : Int) (i : Int) wL) w := by
      intro e
      unfold troveref8_Check.j6
      refine h.tb0 (br_b (fun g1 => yes (by have g1 : t.1 ≠ 0 := (by simpa using g1); unfold tkBad; omega)) (fun g1 => ?_))
      have g1 : t.1 = 0 := by simpa using g1
      refine h.tb1 (br_d (fun g2 => yes (by unfold tkBad; omega)) (fun g2 => ?_))
      refine h.tb1 (br_d (fun g3 => yes (by unfold tkBad; omega)) (fun g3 => ?_))
      refine h.tb2 (br_d (fun g4 => yes (by unfold tkBad; omega)) (fun g4 => ?_))
      refine h.tb2 (br_d (fun g5 => yes (by unfold tkBad; omega)) (fun g5 => ?_))
      refine h.tb2 (br_d (fun g6 => yes (by unfold tkBad; omega)) (fun g6 => ?_))
      refine h.tb1 ?_
      have e1 : (tkN t : Int) = t.2.1 := by unfold tkN; rw [if_neg (by omega)]; omega
      refine lt_as (wrap_i64 (by omega) (by omega)) ?_
      exact next (by unfold tkBad; omega) _ (by omega) (by omega)
    refine h.tb1 (br_b (fun g2 => ?_) (fun g2 => big (fun e => by rw [e.1] at g2; simp at g2)))
    have g2 : t.2.1 = 0 := by simpa using g2
    refine h.tb2 (br_b (fun g3 => ?_) (fun g3 => big (fun e => by rw [e.2] at g3; simp at g3)))
    have g3 : t.2.2 = 0 := by simpa using g3
    have e1 : tkN t = 1 := by unfold tkN; rw [if_pos g2]
    refine lt_as (wrap_i64 (by omega) (by omega)) ?_
    exact next (by unfold tkBad; omega) _ (by omega) (by omega)
  · have : i = L.length := by omega
    subst this
    rw [List.drop_length, tkChk] at hc
    unfold troveref8_Check.j2
    rw [← hc] at hk
    exact hk wL h

theorem sum_mono (i : Nat) : ((L.take i).map tkK).sum ≤ (L.map tkK).sum := by
  conv => rhs; rw [← List.take_append_drop i L, List.map_append, List.sum_append]
  omega

theorem troveref8_Size.c {s : Sl} {K : Ending → World → Prop} (h : St F0 w0 w ps) [Rdb F0 w0 s ps 3 (tks L)] (hL : L.length ≤ 1000000000)
    (hk : ∀ w', St F0 w0 w' ps → K (.returned (.int .i64 (tkSize L))) w') : Calls Try.prog 71 ⟨[.slice s.a s.len s.cap]⟩ w K := by
  have hl := (h.rdb s).1
  rw [tri_length] at hl
  refine ret_k (troveref8_Size.ok _ _ _ ?_)
  unfold troveref8_Size troveref8_Size.j1 troveref8_Size.j3
  refine loop2 (fun (i : Nat) (n i' : Int) w' => i' = i ∧ i ≤ L.length ∧ n = ((((L.take i).map tkK).sum : Nat) : Int) ∧ ((L.take i).map tkK).sum ≤ 262144 ∧ St F0 w0 w' ps) (fun i => L.length - i) 0 ⟨rfl, by omega, by simp, by simp, h⟩ ?_
  clear h
  rintro i n i' wL I μ ⟨rfl, hi, rfl, hn, h⟩ hin
  unfold troveref8_Size.b1
  refine br_d (fun g => ?_) (fun g => ?_)
  · have hil : i < L.length := by omega
    have hs := sum_sn hil
    have hkl := tkK_le L[i]
    have hmo := sum_mono (L := L) (i + 1)
    have fin : ∀ x : Int, x = ((((L.take i).map tkK).sum : Nat) : Int) + (tkK L[i] : Int) → troveref8_Size.j6 s x (i : Int) (fun v w' => K (.returned v) w') (fun l_0' n_3' i_4' w' => (l_0' = s) ∧ I n_3' i_4' w' ∧ μ n_3' i_4' w' < μ ((((L.take i).map tkK).sum : Nat) : Int) (i : Int) wL) wL := by
      intro x hx
      subst hx
      unfold troveref8_Size.j6
      refine br_d (fun g2 => ?_) (fun g2 => ?_)
      · have e : tkSize L = 262145 := by unfold tkSize; omega
        rw [e] at hk
        exact hk wL h
      · unfold troveref8_Size.j5
        refine lt_as (wrap_i64 (by omega) (by omega)) ?_
        exact ⟨rfl, hin (i + 1) _ _ _ ⟨by omega, by omega, by omega, by omega, h⟩ (by omega)⟩
    unfold troveref8_Size.j4
    refine h.lt1 (s := s) i rfl hil ?_
    unfold troveref8_Size.j7
    refine br_b (fun g2 => ?_) (fun g2 => ?_)
    · have g2 : L[i].2.1 = 0 := by simpa using g2
      have e : tkK L[i] = 1 := by unfold tkK; rw [if_pos g2]
      refine lt_as (wrap_i64 (by omega) (by omega)) ?_
      exact fin _ (by omega)
    have g2 : L[i].2.1 ≠ 0 := by simpa using g2
    refine h.lt1 (s := s) i rfl hil ?_
    unfold troveref8_Size.j8
    refine br_d (fun g3 => ?_) (fun g3 => ?_)
    · refine h.lt1 (s := s) i rfl hil ?_
      refine br_d (fun g4 => ?_) (fun g4 => ?_)
      · have e : tkK L[i] = L[i].2.1.toNat := by unfold tkK; rw [if_neg g2, if_neg (by omega)]
        refine h.lt1 (s := s) i rfl hil ?_
        refine lt_as (wrap_i64 (by omega) (by omega)) ?_
        exact fin _ (by omega)
      · have e : tkK L[i] = 0 := by unfold tkK; rw [if_neg g2, if_pos (by omega)]
        exact fin _ (by omega)
    · have e : tkK L[i] = 0 := by unfold tkK; rw [if_neg g2, if_pos (by omega)]
      exact br_f1 (fin _ (by omega))
  · have : i = L.length := by omega
    subst this
    rw [List.take_length] at hn
    rw [List.take_length]
    have e : tkSize L = (L.map tkK).sum := by unfold tkSize; omega
    rw [e] at hk
    unfold troveref8_Size.j2
    exact hk wL h

theorem troveref8_Expand.c {s : Sl} {most : Int} {K : Ending → World → Prop} (h : St F0 w0 w ps) [Rdb F0 w0 s ps 3 (tks L)] (hL : L.length ≤ 1000000) (hm : most < 9223372036854775808) (hm0 : -9223372036854775808 ≤ most)
    (hk : ∀ s' w', s'.len = (tkExpand L most).1.length → St F0 w0 w' (rdA 1 s' (u8s (tkExpand L most).1) :: ps) → K (.returned (.tuple ⟨[.slice s'.a s'.len s'.cap, .int .i64 (tkExpand L most).2]⟩)) w') :
    Calls Try.prog 67 ⟨[.slice s.a s.len s.cap, .int .i64 most]⟩ w K := by
  have hl := (h.rdb s).1
  rw [tri_length] at hl
  refine ret_k (troveref8_Expand.ok _ _ _ _ ?_)
  unfold troveref8_Expand troveref8_Expand.j1
  refine troveref8_Check.c h (by omega) fun w h => ⟨_, rfl, ?_⟩
  have nil : ∀ {w}, St F0 w0 w ps → St F0 w0 w (rdA 1 ⟨none, 0, 0⟩ (u8s []) :: ps) := fun h => (h.nil 1).ro
  unfold tkExpand at hk
  refine br_b (fun g => ?_) (fun g => ?_)
  · have g : tkChk 0 L ≠ 0 := by simpa using g
    rw [if_pos g] at hk
    exact hk ⟨none, 0, 0⟩ w rfl (nil h)
  have g : tkChk 0 L = 0 := by simpa using g
  rw [if_neg (fun e => e g)] at hk
  unfold troveref8_Expand.j2 troveref8_Expand.j4
  have bad : most < 0 → ∀ {w}, St F0 w0 w ps → K (.returned (.tuple ⟨[.slice none 0 0, .int .i64 5]⟩)) w := fun g2 w h => by
    rw [if_pos g2] at hk
    exact hk ⟨none, 0, 0⟩ w rfl (nil h)
  refine loop2 (fun (a : Nat × List Int) (o : Sl) (i' : Int) w' => i' = a.1 ∧ a.1 ≤ L.length ∧ a.2.length ≤ 258 * a.1 ∧ (most < 0 → a.2 = []) ∧ (0 ≤ most → (a.2.length : Int) ≤ most) ∧ tkChk a.2.length (L.drop a.1) = 0 ∧ tkAll most a.2 (L.drop a.1) = tkAll most [] L ∧ St F0 w0 w' (ownA 1 o (u8s a.2) :: ps)) (fun a => L.length - a.1) (0, [])
    ⟨rfl, by simp, by simp, fun _ => rfl, by simp, by simpa using g, by simp, h.nil 1⟩ ?_
  clear h
  rintro ⟨i, out⟩ o i' wL I μ ⟨rfl, hi, hol, hneg, hom, hc, ha, h⟩ hin
  simp only at hi hol hneg hom hc ha h hin ⊢
  have holen := h.len
  rw [ivs_length] at holen
  unfold troveref8_Expand.b1
  refine br_d (fun g3 => ?_) (fun g3 => ?_)
  · have hil : i < L.length := by omega
    rw [drop_tk hil] at hc ha
    obtain ⟨hb, hc⟩ := tkChk_cons hc
    rw [tkAll] at ha
    have htn2 : 1 ≤ tkN L[i] ∧ tkN L[i] ≤ 258 := by
      unfold tkBad at hb
      unfold tkN
      split <;> omega
    have j7 : ∀ n : Int, n = (tkN L[i] : Int) → troveref8_Expand.j7 s most o (i : Int) n (fun v w' => K (.returned v) w') (fun d_0' i_1' t6' t7' w' => (d_0' = s ∧ i_1' = most) ∧ I t6' t7' w' ∧ μ t6' t7' w' < μ o (i : Int) wL) wL := by
      intro n hn
      subst hn
      unfold troveref8_Expand.j7
      by_cases hneg2 : most < 0
      · have ho := hneg hneg2
        subst ho
        simp only [List.length_nil] at holen
        refine lt_as (show IntKind.i64.wrap (most - ((o.len : Nat) : Int)) = most by rw [wrap_i64 (by omega) (by omega)]; omega) ?_
        refine br_d (fun _ => bad hneg2 h.drop) (fun g4 => by omega)
      have hom := hom (by omega)
      rw [if_neg hneg2] at hk
      refine lt_as (wrap_i64 (by omega) (by omega)) ?_
      refine br_d (fun g4 => ?_) (fun g4 => ?_)
      · rw [if_pos (by omega)] at ha
        rw [← ha] at hk
        exact hk ⟨none, 0, 0⟩ wL rfl (nil h.drop)
      rw [if_neg (by omega)] at ha
      refine br_d (fun g5 => by omega) (fun g5 => ?_)
      have fin : ∀ (o2 : Sl) (w' : World), St F0 w0 w' (ownA 1 o2 (u8s (tkExp out L[i])) :: ps) → troveref8_Expand.j6 s most o2 (i : Int) (fun v w' => K (.returned v) w') (fun d_0' i_1' t6' t7' w' => (d_0' = s ∧ i_1' = most) ∧ I t6' t7' w' ∧ μ t6' t7' w' < μ o (i : Int) wL) w' := by
        intro o2 w' h
        have hel := tkExp_length out L[i] (by unfold tkBad at hb; omega)
        unfold troveref8_Expand.j6
        refine lt_as (wrap_i64 (by omega) (by omega)) ?_
        exact ⟨⟨rfl, rfl⟩, hin (i + 1, tkExp out L[i]) _ _ _ ⟨by simp, by simp only; omega, by simp only; omega, fun e => by omega, fun _ => by simp only; omega, by simp only; rw [hel]; exact hc, by simp only; exact ha, h⟩ (by simp only; omega)⟩
      unfold troveref8_Expand.j8
      refine h.lt1 (s := s) i rfl hil ?_
      refine br_b (fun g6 => ?_) (fun g6 => ?_)
      · have g6 : L[i].2.1 = 0 := by simpa using g6
        refine h.lt0 (s := s) i rfl hil ?_
        refine h.pushI (s := o) (by omega) fun o2 w h => ?_
        refine fin o2 w ?_
        unfold tkExp
        rw [if_pos g6]
        exact h
      · have g6 : L[i].2.1 ≠ 0 := by simpa using g6
        have hb2 := hb
        unfold tkBad at hb2
        have htm : tkN L[i] = L[i].2.1.toNat := by unfold tkN; rw [if_neg g6]
        have he : tkCopy L[i].2.2 L[i].2.1.toNat out = tkExp out L[i] := by unfold tkExp; rw [if_neg g6]
        unfold troveref8_Expand.j9
        generalize hm3 : L[i].2.1.toNat = m at he htm
        refine loop2 (fun (a : Nat × List Int) (o : Sl) (k' : Int) w' => k' = a.1 ∧ a.1 ≤ m ∧ tkCopy L[i].2.2 (m - a.1) a.2 = tkExp out L[i] ∧ a.2.length = out.length + a.1 ∧ St F0 w0 w' (ownA 1 o (u8s a.2) :: ps)) (fun a => m - a.1) (0, out) ⟨rfl, by simp, by simpa using he, by simp, h⟩ ?_
        clear h
        rintro ⟨k, o3⟩ q k' w I3 μ3 ⟨rfl, hkm, hcp, hlen, h⟩ hin3
        simp only at hkm hcp hlen h hin3 ⊢
        have hql := h.len
        rw [ivs_length] at hql
        unfold troveref8_Expand.b2
        refine br_d (fun g7 => ?_) (fun g7 => ?_)
        · obtain ⟨f, hf⟩ : ∃ f, m - k = f + 1 := ⟨m - k - 1, by omega⟩
          rw [hf, tkCopy_succ] at hcp
          refine h.lt2 (s := s) i rfl hil ?_
          refine lt_as (show IntKind.i64.wrap (((q.len : Nat) : Int) - L[i].2.2) = ((o3.length - L[i].2.2.toNat : Nat) : Int) by rw [wrap_i64 (by omega) (by omega)]; omega) ?_
          refine h.lx (s := q) (o3.length - L[i].2.2.toNat) rfl (by omega) ?_
          refine h.pushI (s := q) (by omega) fun q2 w h => ?_
          refine lt_as (wrap_i64 (by omega) (by omega)) ?_
          refine ⟨⟨rfl, rfl, rfl, rfl⟩, hin3 (k + 1, o3 ++ [o3.getD (o3.length - L[i].2.2.toNat) 0]) _ _ _ ⟨by simp, by simp only; omega, ?_, by simp; omega, h⟩ (by simp only; omega)⟩
          simp only
          rw [show m - (k + 1) = f by omega]
          exact hcp
        · have : k = m := by omega
          subst this
          rw [Nat.sub_self, tkCopy] at hcp
          rw [hcp] at h
          exact fin q w h
    unfold troveref8_Expand.j5
    refine h.lt1 (s := s) i rfl hil ?_
    refine br_b (fun g4 => j7 1 ?_) (fun g4 => ?_)
    · have g4 : L[i].2.1 = 0 := by simpa using g4
      unfold tkN; rw [if_pos g4]; rfl
    · have g4 : L[i].2.1 ≠ 0 := by simpa using g4
      refine j7 _ ?_
      unfold tkBad at hb
      unfold tkN; rw [if_neg g4]; omega
  · have : i = L.length := by omega
    subst this
    rw [List.drop_length, tkAll] at ha
    unfold troveref8_Expand.j3
    refine br_d (fun g4 => bad g4 h.drop) (fun g4 => ?_)
    rw [if_neg g4] at hk
    rw [← ha] at hk
    exact hk o wL (by simp only; omega) h.ro

end

end Go.Proofs.Ytkajimndclhgaaa
