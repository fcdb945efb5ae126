/- The document's SHA-1: a block. Own work. -/
import Derived.Test.YtkajimndclhgaaaShaG
namespace Go.Proofs.Ytkajimndclhgaaa
open Go Go.Proofs
set_option linter.unusedVariables false
set_option linter.unusedSimpArgs false
attribute [local irreducible] apK cpK mkK hs sumB rounds growW

theorem zc_u32 : zc Try.prog 151 = #[.int .u32 0] := by kernel_rfl
theorem zc_w5 : zc Try.prog 152 = ⟨u32s [0, 0, 0, 0, 0]⟩ := by kernel_rfl
theorem info_u32 : Try.prog.info? 151 = some Try.t151 := by kernel_rfl
theorem bytes_u32 : Try.prog.bytesOf 151 ≤ 16 := by
  rw [Program.bytesOf, info_u32]
  decide

section
variable {F0 : List Nat} {w0 w : World} {ps : List As}

theorem St.ldo32 {s : Sl} {l : List Int} {i : Int} {j : Nat} {K : Int → Prop} (h : St F0 w0 w (ownA 1 s (u32s l) :: ps)) (hi : i = j) (hj : j < l.length) (hk : K (l.getD j 0)) : ixS s.a s.len i 1 fun a => ldI .u32 w a K := by
  subst hi
  have hr := h.ord
  have hl := hr.1
  rw [u32s_length] at hl
  refine hr.ix (by decide) (by omega) (by omega) fun a ha => ?_
  rw [show ((j : Int)).toNat * 1 = j by omega]
  exact hr.ldI ha (u32s_get hj) hk

theorem St.sto32 {s : Sl} {l : List Int} {i v : Int} {j : Nat} {K : World → Prop} (h : St F0 w0 w (ownA 1 s (u32s l) :: ps)) (hi : i = j) (hj : j < l.length) (hk : ∀ w', St F0 w0 w' (ownA 1 s (u32s (l.set j v)) :: ps) → K w') : ixS s.a s.len i 1 fun a => Go.Proofs.Ytkajimndclhgaaa.st w a (.int .u32 v) K := by
  subst hi
  have hr := h.ord
  have hl := hr.1
  rw [u32s_length] at hl
  refine hr.ix (by decide) (by omega) (by omega) fun a ha => ?_
  rw [show ((j : Int)).toNat * 1 = j by omega]
  refine h.setO ha (by rw [u32s_length]; exact hj) trivial fun w h => hk w ?_
  rw [u32s_set] at h
  exact h

/-- a word of a block of words -/
theorem St.ldx {nb n : Nat} {l : List Int} {i : Int} {j : Nat} {K : Int → Prop} (h : St F0 w0 w (blkA nb (u32s l) :: ps)) (hi : i = j) (hn : l.length = n) (hj : j < n) (hk : K (l.getD j 0)) : ixA ⟨nb, 0, none⟩ n i 1 fun a => ldI .u32 w a K := by
  subst hi
  refine ixA_b (by omega) (by omega) ?_
  exact h.ldu32' (i := j) (by omega) (by omega) hk

theorem St.stx {nb n : Nat} {l : List Int} {i v : Int} {j : Nat} {K : World → Prop} (h : St F0 w0 w (blkA nb (u32s l) :: ps)) (hi : i = j) (hn : l.length = n) (hj : j < n) (hk : ∀ w', St F0 w0 w' (blkA nb (u32s (l.set j v)) :: ps) → K w') : ixA ⟨nb, 0, none⟩ n i 1 fun a => Go.Proofs.Ytkajimndclhgaaa.st w a (.int .u32 v) K := by
  subst hi
  refine ixA_b (by omega) (by omega) ?_
  exact h.stu32 (i := j) (by omega) (by omega) hk

/-- a whole block of five words is laid -/
theorem St.st5 {nb : Nat} {c l : List Value} {n : Nat} {K : World → Prop} (h : St F0 w0 w (blkA nb c :: ps)) (hc : c.length = n) (hl : l.length = n) (hs : ∀ v ∈ (⟨l⟩ : Array Value), storable v)
    (hk : ∀ w', St F0 w0 w' (blkA nb l :: ps) → K w') : Go.Proofs.Ytkajimndclhgaaa.stA w ⟨nb, 0, none⟩ ⟨l⟩ K := by
  refine h.stA (o := 0) (by show 0 + l.length ≤ c.length; omega) hs fun w' h => hk w' ?_
  have e : c.take 0 ++ (⟨l⟩ : Array Value).toList ++ c.drop (0 + (⟨l⟩ : Array Value).size) = l := by
    rw [List.take_zero, List.nil_append, List.drop_eq_nil_of_le (by show c.length ≤ 0 + l.length; omega), List.append_nil]
  rwa [e] at h

theorem u32s_storable {l : List Int} : ∀ v ∈ (⟨u32s l⟩ : Array Value), storable v := by
  intro v hv
  have hv : v ∈ u32s l := by simpa using hv
  obtain ⟨n, _, rfl⟩ := List.mem_map.1 hv
  trivial

theorem troveref3_block.add {n2 n4 n8 : Nat} {s x : W5} {c : List Value} (hc : c.length = 5) {Q : Value → World → Prop} (h : St F0 w0 w (blkA n2 (u32s s.l) :: blkA n8 (u32s x.l) :: blkA n4 c :: ps))
    (hk : ∀ w', St F0 w0 w' ps → Q (.agg ⟨u32s (addW s x).l⟩) w') : troveref3_block.j5 ⟨n2, 0, none⟩ ⟨n4, 0, none⟩ ⟨n8, 0, none⟩ Q w := by
  unfold troveref3_block.j5 troveref3_block.j7
  refine loop1 (fun (i : Nat) (i' : Int) w => i' = i ∧ i ≤ 5 ∧ St F0 w0 w (blkA n2 (u32s (someW s x i)) :: blkA n8 (u32s x.l) :: blkA n4 c :: ps)) (fun i => 5 - i) 0 ⟨rfl, by omega, h⟩ ?_
  clear h
  rintro i i' w I μ ⟨rfl, hi, h⟩ hin
  unfold troveref3_block.b1
  refine br_d (fun h1 => ?_) (fun h1 => ?_)
  · have hi5 : i < 5 := by omega
    refine h.drewK fun w h => ?_
    refine h.ldx (j := i) rfl rfl hi5 ?_
    refine h.at1.ldx (j := i) rfl rfl hi5 ?_
    refine lt_i ?_
    refine h.stx (j := i) rfl rfl hi5 fun w h => ?_
    refine lt_as (wrap_i64 (by omega) (by omega)) ?_
    refine ⟨⟨rfl, rfl, rfl⟩, hin (i + 1) _ _ ⟨by simp, by omega, ?_⟩ (by omega)⟩
    have hc : i = 0 ∨ i = 1 ∨ i = 2 ∨ i = 3 ∨ i = 4 := by omega
    rcases hc with rfl | rfl | rfl | rfl | rfl <;> exact h
  · have : i = 5 := by omega
    subst this
    unfold troveref3_block.j6
    have h : St F0 w0 w (blkA n2 (u32s (addW s x).l) :: blkA n8 (u32s x.l) :: blkA n4 c :: ps) := h
    refine h.ld20 rfl ?_
    refine ⟨rfl, ?_⟩
    refine h.at2.st5 hc rfl u32s_storable fun w h => ?_
    refine h.ld20 rfl ?_
    exact hk w h.drop.drop.drop

end

end Go.Proofs.Ytkajimndclhgaaa
