/- The hash: Twin, New, numbers put as bytes. Own work. -/
import Derived.Test.YtkajimndclhgaaaShaC
namespace Go.Proofs.Ytkajimndclhgaaa
open Go Go.Proofs
set_option linter.unusedVariables false
set_option linter.unusedSimpArgs false
attribute [local irreducible] apK cpK mkK hs

theorem zc_hash_size : (zc Try.prog 156).size = 70 := by kernel_rfl
theorem new_cells : spl (zc Try.prog 156).toList 0 (⟨[.int .u32 1732584193, .int .u32 4023233417, .int .u32 2562383102, .int .u32 271733878, .int .u32 3285377520]⟩ : Array Value) = cellsH init5 (List.replicate 64 0) 0 := by kernel_rfl

/-- the n lowest bytes of a number, the highest first; j of them -/
def beJ (n j : Nat) (v : Int) : List Int := (List.range j).map fun i => v / 2 ^ (8 * (n - 1 - i)) % 256
theorem beJ_length (n j : Nat) (v : Int) : (beJ n j v).length = j := by simp [beJ]
theorem beJ_succ (n j : Nat) (v : Int) : beJ n (j + 1) v = beJ n j v ++ [v / 2 ^ (8 * (n - 1 - j)) % 256] := by simp [beJ, List.range_succ]
theorem beJ_ok (n j : Nat) (v : Int) : allB (beJ n j v) := by
  intro x hx
  obtain ⟨i, _, rfl⟩ := List.mem_map.1 hx
  omega

section
variable {F0 : List Nat} {w0 w : World} {ps : List As}

theorem St.blkrd {b n : Nat} {l : List Value} (h : St F0 w0 w (blkA b l :: ps)) (hn : l.length = n) : St F0 w0 w (rdA 1 ⟨some ⟨b, 0, none⟩, n, n⟩ l :: ps) := by
  refine h.mp ?_
  rintro F ⟨hb, rfl⟩
  exact ⟨by simp [hn], Or.inr ⟨b, 0, l, rfl, hb.rb, rfl, fun i hi => by rw [Nat.zero_add]⟩⟩

theorem sha_Hash_Twin.c {hb : Nat} {xs : List Int} {K : Ending → World → Prop} (h : St F0 w0 w (shA hb xs :: ps)) (hk : ∀ tb w', St F0 w0 w' (shA tb xs :: shA hb xs :: ps) → K (.returned (.pointer (some ⟨tb, 0, none⟩))) w') : Calls Try.prog 63 ⟨[.pointer (some ⟨hb, 0, none⟩)]⟩ w K := by
  refine ret_k (sha_Hash_Twin.ok _ _ _ ?_)
  unfold sha_Hash_Twin
  obtain ⟨rest, r1, r2, r3, h⟩ := shA_o h
  have hlen := cellsH_length (s := hs xs (xs.length / 64)) (n := (xs.length : Int)) r1
  refine nz_i (h.blk.ldA (cs := ⟨cellsH (hs xs (xs.length / 64)) rest (xs.length : Int)⟩) hlen (fun j hj => by rw [arr_get, Nat.zero_add]) ?_)
  refine h.new fun nb w h => ?_
  refine ⟨hlen, ?_⟩
  have hz : (zc Try.prog 156).toList.length = 70 := by rw [Array.length_toList]; exact zc_hash_size
  refine h.stA (o := 0) (by rw [hz, Nat.zero_add]; show (cellsH _ _ _).length ≤ 70; omega) ?_ fun w h => ?_
  · intro v hv
    have hv : v ∈ cellsH (hs xs (xs.length / 64)) rest (xs.length : Int) := by simpa using hv
    unfold cellsH at hv
    rcases List.mem_append.1 hv with hv | hv
    · obtain ⟨n, _, rfl⟩ := List.mem_map.1 hv; trivial
    rcases List.mem_append.1 hv with hv | hv
    · obtain ⟨n, _, rfl⟩ := List.mem_map.1 hv; trivial
    · rw [List.mem_singleton.1 hv]; trivial
  · have e : (zc Try.prog 156).toList.take 0 ++ (⟨cellsH (hs xs (xs.length / 64)) rest (xs.length : Int)⟩ : Array Value).toList ++ (zc Try.prog 156).toList.drop (0 + (⟨cellsH (hs xs (xs.length / 64)) rest (xs.length : Int)⟩ : Array Value).size) = cellsH (hs xs (xs.length / 64)) rest (xs.length : Int) := by
      rw [List.take_zero, List.nil_append, List.drop_eq_nil_of_le (by rw [hz]; show 70 ≤ 0 + (cellsH _ _ _).length; omega), List.append_nil]
    rw [e] at h
    exact hk nb w ((shA_i r1 r2 r3 h).tail fun _ _ _ h => shA_i r1 r2 r3 h)

theorem new_as {nb : Nat} {l m : List Value} (e : l = m) (h : St F0 w0 w (blkA nb (⟨l⟩ : Array Value).toList :: ps)) : St F0 w0 w (blkA nb m :: ps) := by
  subst e; exact h

theorem sha_New.c {K : Ending → World → Prop} (h : St F0 w0 w ps) (hk : ∀ hb w', St F0 w0 w' (shA hb [] :: ps) → K (.returned (.pointer (some ⟨hb, 0, none⟩))) w') : Calls Try.prog 59 ⟨[]⟩ w K := by
  refine ret_k (sha_New.ok _ _ ?_)
  unfold sha_New
  refine ⟨rfl, ?_⟩
  refine h.new fun nb w h => ?_
  have h := new_as new_cells h
  refine hk nb w (shA_i (xs := []) (rest := List.replicate 64 0) (by decide) rfl ?_ ?_)
  · intro x hx
    rw [List.eq_of_mem_replicate hx]; decide
  · have e : hs [] (([] : List Int).length / 64) = init5 := by show hs [] 0 = init5; rw [hs]
    rw [e]
    exact h

theorem bin_put.c {s : Sl} {xs : List Int} {v : Int} {n : Nat} {K : Ending → World → Prop} (h : St F0 w0 w ps) (hr : Rd w 1 s (u8s xs)) (hL : xs.length ≤ 1099511627776) (hn : n ≤ 8)
    (hk : ∀ s' w', s'.len = xs.length + n → s'.cap = s'.len → St F0 w0 w' (rdA 1 s' (u8s (xs ++ beJ n n v)) :: ps) → K (.returned (.slice s'.a s'.len s'.cap)) w') : Calls Try.prog 132 ⟨[.slice s.a s.len s.cap, .int .i64 v, .int .i64 ((8 * n : Nat) : Int)]⟩ w K := by
  refine ret_k (bin_put.ok _ _ _ _ _ ?_)
  unfold bin_put
  refine slices_Clone_byte.c h hr (by omega) fun s1 w h => ⟨s1, rfl, ?_⟩
  unfold bin_put.j1
  refine loop2 (fun (j : Nat) (b' : Int) (o' : Sl) w => b' = ((8 * (n - j) : Nat) : Int) ∧ j ≤ n ∧ St F0 w0 w (ownA 1 o' (u8s (xs ++ beJ n j v)) :: ps)) (fun j => n - j) 0 ⟨rfl, by omega, by simpa [beJ] using h⟩ ?_
  clear h
  rintro j b' o w I μ ⟨rfl, hj, h⟩ hin
  unfold bin_put.b1
  refine br_d (fun h1 => ?_) (fun h1 => ?_)
  · refine lt_as (wrap_i64 (by omega) (by omega)) ?_
    have e : ((8 * (n - j) : Nat) : Int) - 8 = ((8 * (n - 1 - j) : Nat) : Int) := by omega
    rw [e]
    refine ⟨by omega, ?_⟩
    refine lt_as (shrV_nat .i64 _ (show 8 * (n - 1 - j) ≤ 64 by omega)) ?_
    refine lt_as (wrap_u8 _) ?_
    refine h.new fun nb w h => ?_
    refine h.rdB rfl ?_
    refine h.drop.append_u8 (by rw [List.length_append, beJ_length]; omega) rfl fun s2 w h => ?_
    refine ⟨rfl, hin (j + 1) _ _ _ ⟨?_, by omega, ?_⟩ (by omega)⟩
    · rw [show n - 1 - j = n - (j + 1) by omega]
    · rw [beJ_succ, ← List.append_assoc]
      exact h
  · have : j = n := by omega
    subst this
    have hcap := h.cap (by decide)
    have hlen := h.len
    rw [u8s_length, List.length_append, beJ_length] at hlen
    unfold bin_put.j2
    refine slices_Clip_byte.c h.ro hcap fun s3 hs1 hs2 h => ⟨s3, rfl, hk s3 w (by omega) (by omega) h⟩

end

end Go.Proofs.Ytkajimndclhgaaa
