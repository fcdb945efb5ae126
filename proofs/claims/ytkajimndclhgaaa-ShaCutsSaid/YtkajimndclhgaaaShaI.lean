/- The document's SHA-1: the rounds of a block. Own work. -/
import Derived.Test.YtkajimndclhgaaaShaH
namespace Go.Proofs.Ytkajimndclhgaaa
open Go Go.Proofs
set_option linter.unusedVariables false
set_option linter.unusedSimpArgs false
attribute [local irreducible] apK cpK mkK hs sumB rounds growW

section
variable {F0 : List Nat} {w0 w : World} {ps : List As}

theorem troveref3_block.last {n8 : Nat} {x : W5} {t : Nat} {v : Int} {t2 t4 : Addr} {t5 : Sl} {Q : Value → World → Prop} {nx : Addr → Addr → Sl → Addr → Int → World → Prop} (ht : t < 80) (h : St F0 w0 w (blkA n8 (u32s x.l) :: ps))
    (hk : ∀ w', St F0 w0 w' (blkA n8 (u32s [v, x.a, lf x.b 30, x.c, x.d]) :: ps) → nx t2 t4 t5 ⟨n8, 0, none⟩ ((t : Int) + 1) w') : troveref3_block.j13 t2 t4 t5 ⟨n8, 0, none⟩ t v Q nx w := by
  unfold troveref3_block.j13
  refine h.ldx (j := 3) rfl rfl (by decide) ?_
  refine h.stx (j := 4) rfl rfl (by decide) fun w h => ?_
  refine h.ldx (j := 2) rfl rfl (by decide) ?_
  refine h.stx (j := 3) rfl rfl (by decide) fun w h => ?_
  refine h.ldx (j := 1) rfl rfl (by decide) ?_
  refine troveref3_left.c (by decide) ⟨_, rfl, ?_⟩
  refine h.stx (j := 2) rfl rfl (by decide) fun w h => ?_
  refine h.ldx (j := 0) rfl rfl (by decide) ?_
  refine h.stx (j := 1) rfl rfl (by decide) fun w h => ?_
  refine h.stx (j := 0) rfl rfl (by decide) fun w h => ?_
  unfold troveref3_block.j10
  refine lt_as (wrap_i64 (by omega) (by omega)) ?_
  exact hk w h

theorem troveref3_block.mid {n8 : Nat} {x : W5} {l : List Int} {t : Nat} {f k : Int} {t2 t4 : Addr} {t5 : Sl} {Q : Value → World → Prop} {nx : Addr → Addr → Sl → Addr → Int → World → Prop} (ht : t < 80) (hl : l.length = 80) (hf : (mixF t x.b x.c x.d) = (f, k))
    (h : St F0 w0 w (blkA n8 (u32s x.l) :: ownA 1 t5 (u32s l) :: ps))
    (hk : ∀ w', St F0 w0 w' (blkA n8 (u32s (stepF t (l.getD t 0) x).l) :: ownA 1 t5 (u32s l) :: ps) → nx t2 t4 t5 ⟨n8, 0, none⟩ ((t : Int) + 1) w') : troveref3_block.j12 t2 t4 t5 ⟨n8, 0, none⟩ t f k Q nx w := by
  have e : (stepF t (l.getD t 0) x).l = [IntKind.u32.wrap (IntKind.u32.wrap (IntKind.u32.wrap (IntKind.u32.wrap (lf x.a 5 + f) + x.e) + k) + l.getD t 0), x.a, lf x.b 30, x.c, x.d] := by
    unfold stepF
    rw [hf]
    rfl
  rw [e] at hk
  unfold troveref3_block.j12
  refine h.drewK fun w h => ?_
  have hr := h.at1.ord
  have hlen := hr.1
  rw [u32s_length] at hlen
  refine h.ldx (j := 0) rfl rfl (by decide) ?_
  refine ixA_b (by decide) (by decide) ?_
  refine hr.ix (by decide) (by omega) (by omega) fun a ha => ?_
  rw [show ((t : Int)).toNat * 1 = t by omega]
  have l4 : ∀ {K : Int → Prop}, K x.e → ldI .u32 w ⟨n8, 0 + (4 : Int).toNat * 1, none⟩ K := fun hK => h.ldu32' (i := 4) rfl (by show 4 < 5; decide) hK
  have lw : ∀ {K : Int → Prop}, K (l.getD t 0) → ldI .u32 w (a.add t) K := fun hK => hr.ldI ha (u32s_get (by omega)) hK
  refine ⟨?_, ?_, ?_⟩
  · refine troveref3_left.c (by decide) ⟨_, rfl, lt_i ⟨?_, ?_⟩⟩
    · exact l4 (lt_i (lt_i (lw (lt_i (troveref3_block.last ht h hk)))))
    · exact lw (l4 (lt_i (lt_i (lt_i (troveref3_block.last ht h hk)))))
  · refine l4 ⟨?_, ?_⟩
    · exact troveref3_left.c (by decide) ⟨_, rfl, lt_i (lt_i (lt_i (lw (lt_i (troveref3_block.last ht h hk)))))⟩
    · exact lw (troveref3_left.c (by decide) ⟨_, rfl, lt_i (lt_i (lt_i (lt_i (troveref3_block.last ht h hk))))⟩)
  · refine lw ⟨?_, ?_⟩
    · exact troveref3_left.c (by decide) ⟨_, rfl, lt_i (l4 (lt_i (lt_i (lt_i (troveref3_block.last ht h hk)))))⟩
    · exact l4 (troveref3_left.c (by decide) ⟨_, rfl, lt_i (lt_i (lt_i (lt_i (troveref3_block.last ht h hk))))⟩)

theorem troveref3_block.loop {n2 n4 n8 : Nat} {s : W5} {l : List Int} {c : List Value} {t5 : Sl} (hl : l.length = 80) (hc : c.length = 5) {Q : Value → World → Prop}
    (h : St F0 w0 w (blkA n8 (u32s s.l) :: ownA 1 t5 (u32s l) :: blkA n2 (u32s s.l) :: blkA n4 c :: ps))
    (hk : ∀ w', St F0 w0 w' ps → Q (.agg ⟨u32s (addW s (rounds l 80 s)).l⟩) w') : troveref3_block.j4 ⟨n2, 0, none⟩ ⟨n4, 0, none⟩ t5 ⟨n8, 0, none⟩ Q w := by
  unfold troveref3_block.j4 troveref3_block.j8
  refine loop1 (fun (t : Nat) (t' : Int) w => t' = t ∧ t ≤ 80 ∧ St F0 w0 w (blkA n8 (u32s (rounds l t s).l) :: ownA 1 t5 (u32s l) :: blkA n2 (u32s s.l) :: blkA n4 c :: ps)) (fun t => 80 - t) 0 ⟨rfl, by omega, by rw [rounds]; exact h⟩ ?_
  clear h
  rintro t t' w I μ ⟨rfl, ht, h⟩ hin
  have hr : rounds l (t + 1) s = stepF t (l.getD t 0) (rounds l t s) := by rw [rounds]
  generalize hx : rounds l t s = x at h hr
  unfold troveref3_block.b2
  refine br_d (fun h1 => ?_) (fun h1 => ?_)
  · have ht80 : t < 80 := by omega
    have fin : ∀ w', St F0 w0 w' (blkA n8 (u32s (stepF t (l.getD t 0) x).l) :: ownA 1 t5 (u32s l) :: blkA n2 (u32s s.l) :: blkA n4 c :: ps) →
        ((⟨n2, 0, none⟩ : Addr) = ⟨n2, 0, none⟩ ∧ (⟨n4, 0, none⟩ : Addr) = ⟨n4, 0, none⟩ ∧ t5 = t5 ∧ (⟨n8, 0, none⟩ : Addr) = ⟨n8, 0, none⟩) ∧ I ((t : Int) + 1) w' ∧ μ ((t : Int) + 1) w' < μ (t : Int) w := by
      intro w' h
      rw [← hr] at h
      exact ⟨⟨rfl, rfl, rfl, rfl⟩, hin (t + 1) _ _ ⟨by simp, by omega, h⟩ (by omega)⟩
    unfold troveref3_block.j9 troveref3_block.j11
    have x1 : ∀ {K : Int → Prop}, K x.b → ixA ⟨n8, 0, none⟩ 5 1 1 fun a => ldI .u32 w a K := fun hK => h.ldx (j := 1) rfl rfl (by decide) hK
    have x2 : ∀ {K : Int → Prop}, K x.c → ixA ⟨n8, 0, none⟩ 5 2 1 fun a => ldI .u32 w a K := fun hK => h.ldx (j := 2) rfl rfl (by decide) hK
    have x3 : ∀ {K : Int → Prop}, K x.d → ixA ⟨n8, 0, none⟩ 5 3 1 fun a => ldI .u32 w a K := fun hK => h.ldx (j := 3) rfl rfl (by decide) hK
    refine br_d (fun h2 => ?_) (fun h2 => ?_)
    · refine x1 (x2 (lt_i (x1 (lt_i (x3 (lt_i (lt_i ?_)))))))
      exact troveref3_block.mid ht80 hl (by unfold mixF; rw [if_pos (by omega)]; rfl) h fin
    refine br_d (fun h3 => ?_) (fun h3 => ?_)
    · refine x1 (x2 (lt_i (x3 (lt_i ?_))))
      exact troveref3_block.mid ht80 hl (by unfold mixF; rw [if_neg (by omega), if_pos (by omega)]) h fin
    refine br_d (fun h4 => ?_) (fun h4 => ?_)
    · refine x1 (x2 (lt_i (x1 (x3 (lt_i (lt_i (x2 (x3 (lt_i (lt_i ?_))))))))))
      exact troveref3_block.mid ht80 hl (by unfold mixF; rw [if_neg (by omega), if_neg (by omega), if_pos (by omega)]) h fin
    · refine x1 (x2 (lt_i (x3 (lt_i ?_))))
      exact troveref3_block.mid ht80 hl (by unfold mixF; rw [if_neg (by omega), if_neg (by omega), if_neg (by omega)]) h fin
  · have : t = 80 := by omega
    subst this
    refine troveref3_block.add (x := x) hc (h.at2.tail fun _ _ _ h => h.tail1) ?_
    rw [← hx]
    exact hk

end

end Go.Proofs.Ytkajimndclhgaaa
