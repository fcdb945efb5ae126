/- The hash's methods, found by name; what is known. Own work. -/
import Derived.Test.YtkajimndclhgaaaShaL
import Derived.Test.YtkajimndclhgaaaGShaL
namespace Go.Proofs.Ytkajimndclhgaaa
open Go Go.Proofs
set_option linter.unusedVariables false
set_option linter.unusedSimpArgs false
attribute [local irreducible] apK cpK mkK hs sumB rounds growW

section
variable {F0 : List Nat} {w0 w : World} {ps rest : List As}

theorem sha_Hash_Write.d {hb : Nat} {xs zs : List Int} {s : Sl} {K : Ending → World → Prop} (h : St F0 w0 w ps) [PkF shA hb ps xs rest] [Rdb F0 w0 s rest 1 (u8s zs)] (hz : allB zs) (hL : xs.length + zs.length ≤ 1099511627776)
    (hk : ∀ w', St F0 w0 w' (shA hb (xs ++ zs) :: rest) → K (.returned (.tuple ⟨[]⟩)) w') : Calls Try.prog 60 ⟨[.pointer (some ⟨hb, 0, none⟩), .slice s.a s.len s.cap]⟩ w K :=
  sha_Hash_Write.c (h.toF shA hb) (fun w' p h => h.drop.rdb s) hz hL hk

theorem sha_Hash_Sum.d {hb : Nat} {xs : List Int} {K : Ending → World → Prop} (h : St F0 w0 w ps) [PkF shA hb ps xs rest] (hL : xs.length ≤ 34359738368)
    (hk : ∀ w', St F0 w0 w' (shA hb xs :: rest) → K (.returned (.agg ⟨u8s (sumB xs)⟩)) w') : Calls Try.prog 62 ⟨[.pointer (some ⟨hb, 0, none⟩)]⟩ w K :=
  sha_Hash_Sum.c (h.toF shA hb) hL hk

theorem sha_Hash_Len.d {hb : Nat} {xs : List Int} {K : Ending → World → Prop} (h : St F0 w0 w ps) [PkF shA hb ps xs rest] (hk : K (.returned (.int .i64 xs.length)) w) : Calls Try.prog 61 ⟨[.pointer (some ⟨hb, 0, none⟩)]⟩ w K :=
  sha_Hash_Len.c (h.toF shA hb) hk

theorem sha_Hash_Twin.d {hb : Nat} {xs : List Int} {K : Ending → World → Prop} (h : St F0 w0 w ps) [PkF shA hb ps xs rest] (hk : ∀ tb w', St F0 w0 w' (shA tb xs :: shA hb xs :: rest) → K (.returned (.pointer (some ⟨tb, 0, none⟩))) w') : Calls Try.prog 63 ⟨[.pointer (some ⟨hb, 0, none⟩)]⟩ w K :=
  sha_Hash_Twin.c (h.toF shA hb) hk

theorem sha_Sum.d {s : Sl} {xs : List Int} {K : Ending → World → Prop} (h : St F0 w0 w ps) [Rdb F0 w0 s ps 1 (u8s xs)] (hx : allB xs) (hL : xs.length ≤ 34359738368)
    (hk : ∀ w', St F0 w0 w' ps → K (.returned (.agg ⟨u8s (sumB xs)⟩)) w') : Calls Try.prog 57 ⟨[.slice s.a s.len s.cap]⟩ w K :=
  sha_Sum.c h (fun w' p q h => h.drop.drop.rdb s) hx hL hk

theorem zc_id_len : (zc Try.prog 51).toList.length = 20 := by rw [Array.length_toList]; exact zc_id_size

/-- a sum is laid into a block of its own -/
theorem St.put20 {xs : List Int} {K : Addr → World → Prop} (h : St F0 w0 w ps) (hk : ∀ nb w', St F0 w0 w' (blkA nb (u8s (sumB xs)) :: ps) → K ⟨nb, 0, none⟩ w') :
    lt (⟨World.heapSize w, 0, none⟩ : Addr) fun a => lt (World.alloc w (.cells (zc Try.prog 51) 51)) fun w1 => (⟨u8s (sumB xs)⟩ : Array Value).size = 20 ∧ Go.Proofs.Ytkajimndclhgaaa.stA w1 a ⟨u8s (sumB xs)⟩ fun w2 => K a w2 := by
  refine h.new fun nb w h => ?_
  refine ⟨sumB_len xs, ?_⟩
  exact h.st20 zc_id_len (sumB_len xs) u8s_storable fun w h => hk nb w h

theorem sum_none : (sumB []).getD 0 0 = 218 ∧ (sumB []).getD 19 0 = 9 := by decide +kernel
theorem sum_abc : (sumB [97, 98, 99]).getD 0 0 = 169 ∧ (sumB [97, 98, 99]).getD 19 0 = 157 := by decide +kernel

theorem trovelaw3_known.c {K : Ending → World → Prop} (h : St F0 w0 w ps) (hk : ∀ w', St F0 w0 w' ps → K (.returned (.bool true)) w') : Calls Try.prog 56 ⟨[]⟩ w K := by
  refine ret_k (trovelaw3_known.ok _ _ ?_)
  unfold trovelaw3_known
  refine (haveI := Rdb.nil (F0 := F0) (w0 := w0) (ps := ps) 0; sha_Sum.d (s := ⟨none, 0, 0⟩) (xs := []) h (by intro x hx; cases hx) (by decide)) fun w h => ⟨_, rfl, ?_⟩
  refine h.put20 fun n1 w h => ?_
  refine h.new fun n2 w h => ?_
  refine h.str rfl fun w h => ?_
  refine sha_Sum.d (s := ⟨some ⟨n2, 0, none⟩, 3, 3⟩) (xs := [97, 98, 99]) h (by intro x hx; simp at hx; omega) (by decide) fun w h => ⟨_, rfl, ?_⟩
  refine h.put20 fun n3 w h => ?_
  refine sha_New.c h fun hb w h => ⟨_, rfl, ?_⟩
  refine br_f1 ?_
  refine h.new fun n4 w h => ?_
  refine h.str rfl fun w h => ?_
  refine sha_Hash_Write.d (s := ⟨some ⟨n4, 0, none⟩, 2, 2⟩) (zs := [97, 98]) h (by intro x hx; simp at hx; omega) (by decide) fun w h => ⟨rfl, ?_⟩
  refine h.new fun n5 w h => ?_
  refine h.str rfl fun w h => ?_
  refine sha_Hash_Write.d (s := ⟨some ⟨n5, 0, none⟩, 1, 1⟩) (zs := [99]) h (by intro x hx; simp at hx; omega) (by decide) fun w h => ⟨rfl, ?_⟩
  refine h.drewK fun w h => ?_
  have l1 := sumB_length []
  have l2 := sumB_length [97, 98, 99]
  refine h.la (k := .u8) 0 rfl l1 (by decide) (br_is (by rw [sum_none.1]; rfl) ?_)
  refine h.la (k := .u8) 19 rfl l1 (by decide) (br_is (by rw [sum_none.2]; rfl) ?_)
  refine h.la (k := .u8) 0 rfl l2 (by decide) (br_is (by rw [sum_abc.1]; rfl) ?_)
  refine h.la (k := .u8) 19 rfl l2 (by decide) (br_is (by rw [sum_abc.2]; rfl) ?_)
  have e : ([] ++ [97, 98]) ++ [99] = [97, 98, (99 : Int)] := rfl
  rw [e] at h
  refine ⟨?_, ?_⟩
  · refine sha_Hash_Sum.d h (by decide) fun w h => ⟨_, rfl, ?_⟩
    refine h.lA (sumB_len _) ?_
    refine eqA_s l2 (br_t1 ?_)
    refine sha_Hash_Len.d h ⟨_, rfl, ?_⟩
    exact hk w h.sub
  · refine h.lA (sumB_len _) ?_
    refine sha_Hash_Sum.d h (by decide) fun w h => ⟨_, rfl, ?_⟩
    refine eqA_s l2 (br_t1 ?_)
    refine sha_Hash_Len.d h ⟨_, rfl, ?_⟩
    exact hk w h.sub

end

theorem trovelaw3_ShaBytes.law (s : Sl) (xs : List Int) (w : World) (hr : Rd w 1 s (u8s xs)) (hx : ∀ n ∈ xs, (Lit.int .u8 n).wf = true) :
    Calls Try.prog 7 ⟨[.slice s.a s.len s.cap]⟩ w fun e w' => e = .returned (.bool true) ∧ Mod [] w w' := by
  refine ret_k (trovelaw3_ShaBytes.ok _ _ _ ?_)
  unfold trovelaw3_ShaBytes
  have hb : allB xs := fun x h => wf_u8 (hx x h)
  have hl := hr.1
  rw [u8s_length] at hl
  haveI : ∀ ps, Rdb [] w s ps 1 (u8s xs) := fun ps => Rdb.start hr
  refine trovelaw3_known.c (St.start0 (w := w)) fun w1 h => ⟨_, rfl, br_f1 ?_⟩
  refine br_d (fun _ => ⟨rfl, h.mod⟩) fun g1 => ?_
  refine sha_Sum.d h hb (by omega) fun w h => ⟨_, rfl, ?_⟩
  refine troveref3_Sum.c h hb (by omega) fun w h => ⟨_, rfl, ?_⟩
  exact eqA_s (sumB_length xs) ⟨rfl, h.mod⟩

end Go.Proofs.Ytkajimndclhgaaa
