/- The sum of bytes; the document's words. Own work. -/
import Derived.Test.YtkajimndclhgaaaShaE
namespace Go.Proofs.Ytkajimndclhgaaa
open Go Go.Proofs
set_option linter.unusedVariables false
set_option linter.unusedSimpArgs false
attribute [local irreducible] apK cpK mkK hs sumB

section
variable {F0 : List Nat} {w0 w : World} {ps : List As}

theorem sumB_len (xs : List Int) : (u8s (sumB xs)).length = 20 := by rw [u8s_length]; exact sumB_length xs

theorem u8s_storable {l : List Int} : ∀ v ∈ (⟨u8s l⟩ : Array Value), storable v := by
  intro v hv
  have hv : v ∈ u8s l := by simpa using hv
  obtain ⟨n, _, rfl⟩ := List.mem_map.1 hv
  trivial

/-- a whole block of twenty is laid -/
theorem St.st20 {nb : Nat} {c l : List Value} {K : World → Prop} (h : St F0 w0 w (blkA nb c :: ps)) (hc : c.length = 20) (hl : l.length = 20) (hs : ∀ v ∈ (⟨l⟩ : Array Value), storable v)
    (hk : ∀ w', St F0 w0 w' (blkA nb l :: ps) → K w') : Go.Proofs.Ytkajimndclhgaaa.stA w ⟨nb, 0, none⟩ ⟨l⟩ K := by
  refine h.stA (o := 0) (by show 0 + l.length ≤ c.length; omega) hs fun w' h => hk w' ?_
  have e : c.take 0 ++ (⟨l⟩ : Array Value).toList ++ c.drop (0 + (⟨l⟩ : Array Value).size) = l := by
    rw [List.take_zero, List.nil_append, List.drop_eq_nil_of_le (by show c.length ≤ 0 + l.length; omega), List.append_nil]
  rwa [e] at h

theorem St.ld20 {nb n : Nat} {l : List Value} {K : Array Value → Prop} (h : St F0 w0 w (blkA nb l :: ps)) (hl : l.length = n) (hk : K ⟨l⟩) : ldA w ⟨nb, 0, none⟩ n K :=
  h.blk.ldA (cs := ⟨l⟩) hl (fun j hj => by rw [arr_get, Nat.zero_add]) hk

theorem sha_Sum.c {s : Sl} {xs : List Int} {K : Ending → World → Prop} (h : St F0 w0 w ps) (hr : ∀ w' p q, St F0 w0 w' (p :: q :: ps) → Rd w' 1 s (u8s xs)) (hx : allB xs) (hL : xs.length ≤ 34359738368)
    (hk : ∀ w', St F0 w0 w' ps → K (.returned (.agg ⟨u8s (sumB xs)⟩)) w') : Calls Try.prog 57 ⟨[.slice s.a s.len s.cap]⟩ w K := by
  refine ret_k (sha_Sum.ok _ _ _ ?_)
  unfold sha_Sum
  refine h.new fun nb w h => ?_
  have hz : (zc Try.prog 51).toList.length = 20 := by rw [Array.length_toList]; exact zc_id_size
  generalize (zc Try.prog 51).toList = c at h hz
  refine sha_New.c h fun hb w h => ⟨_, rfl, ?_⟩
  refine sha_Hash_Write.c h (fun w' p h => hr w' p _ h) hx (by simp; omega) fun w h => ⟨rfl, ?_⟩
  rw [List.nil_append] at h
  refine sha_Hash_Sum.c h hL fun w h => ⟨_, rfl, ?_⟩
  refine ⟨sumB_len xs, ?_⟩
  refine h.drop.st20 hz (sumB_len xs) u8s_storable fun w h => ?_
  refine h.ld20 (sumB_len xs) ?_
  exact hk w h.drop

end

end Go.Proofs.Ytkajimndclhgaaa
