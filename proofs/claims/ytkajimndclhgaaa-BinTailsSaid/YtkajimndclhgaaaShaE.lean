/- The hash: its sum. Own work. -/
import Derived.Test.YtkajimndclhgaaaShaD
namespace Go.Proofs.Ytkajimndclhgaaa
open Go Go.Proofs
set_option linter.unusedVariables false
set_option linter.unusedSimpArgs false
attribute [local irreducible] apK cpK mkK hs

def okW (s : W5) : Prop := ∀ x ∈ s.l, 0 ≤ x ∧ x < 4294967296

theorem okW_hs (xs : List Int) : ∀ n, okW (hs xs n)
  | 0 => by
    rw [hs]
    intro x hx
    simp [W5.l, init5] at hx
    rcases hx with rfl | rfl | rfl | rfl | rfl <;> decide
  | n + 1 => by
    rw [hs]
    unfold blkF
    generalize rounds _ 80 _ = y
    generalize hs xs n = z
    intro x hx
    simp only [W5.l, addW, wrap_u32, List.mem_cons, List.not_mem_nil, or_false] at hx
    rcases hx with rfl | rfl | rfl | rfl | rfl <;> omega

theorem zc_id_size : (zc Try.prog 51).size = 20 := by kernel_rfl

theorem beJ4 (x : Int) : beJ 4 4 x = word4 x := by
  simp [beJ, word4, List.range_succ]

theorem be8_eq (v : Int) : beJ 8 8 v = be8 v := rfl

section
variable {F0 : List Nat} {w0 w : World} {ps : List As}

theorem bin_Put32.c {s : Sl} {xs : List Int} {v : Int} {K : Ending → World → Prop} (h : St F0 w0 w ps) (hr : Rd w 1 s (u8s xs)) (hL : xs.length ≤ 1099511627776)
    (hk : ∀ s' w', s'.len = xs.length + 4 → s'.cap = s'.len → St F0 w0 w' (rdA 1 s' (u8s (xs ++ word4 v)) :: ps) → K (.returned (.slice s'.a s'.len s'.cap)) w') : Calls Try.prog 75 ⟨[.slice s.a s.len s.cap, .int .i64 v]⟩ w K := by
  refine ret_k (bin_Put32.ok _ _ _ _ ?_)
  unfold bin_Put32
  refine bin_put.c (n := 4) h hr hL (by decide) fun s' w h1 h2 h => ⟨s', rfl, ?_⟩
  rw [beJ4] at h
  exact hk s' w h1 h2 h

theorem bin_Put64.c {s : Sl} {xs : List Int} {v : Int} {K : Ending → World → Prop} (h : St F0 w0 w ps) (hr : Rd w 1 s (u8s xs)) (hL : xs.length ≤ 1099511627776)
    (hk : ∀ s' w', s'.len = xs.length + 8 → s'.cap = s'.len → St F0 w0 w' (rdA 1 s' (u8s (xs ++ be8 v)) :: ps) → K (.returned (.slice s'.a s'.len s'.cap)) w') : Calls Try.prog 76 ⟨[.slice s.a s.len s.cap, .int .i64 v]⟩ w K := by
  refine ret_k (bin_Put64.ok _ _ _ _ ?_)
  unfold bin_Put64
  refine bin_put.c (n := 8) h hr hL (by decide) fun s' w h1 h2 h => ⟨s', rfl, ?_⟩
  rw [be8_eq] at h
  exact hk s' w h1 h2 h

theorem sumB_length (xs : List Int) : (sumB xs).length = 20 := rfl

theorem sha_Hash_Sum.out {tb nb : Nat} {zs : List Int} {c : List Value} (hc : c.length = 20) {Q : Value → World → Prop} (h : St F0 w0 w (shA tb zs :: blkA nb c :: ps))
    (hk : ∀ w', St F0 w0 w' ps → Q (.agg ⟨u8s ((hs zs (zs.length / 64)).l.flatMap word4)⟩) w') : sha_Hash_Sum.j4 ⟨nb, 0, none⟩ (some ⟨tb, 0, none⟩) ⟨none, 0, 0⟩ Q w := by
  unfold sha_Hash_Sum.j4
  obtain ⟨rest, r1, r2, r3, h⟩ := shA_o h
  have hok := okW_hs zs (zs.length / 64)
  generalize hs zs (zs.length / 64) = s at h hk hok
  refine nz_i (h.blk.ldA (cs := ⟨u32s s.l⟩) rfl (fun j hj => ?_) ?_)
  · rw [arr_get]
    unfold cellsH
    rw [List.getElem?_append_left (by rw [u32s_length, W5.l_length]; omega)]
    congr 1
    omega
  unfold sha_Hash_Sum.j6
  refine loop2 (fun (i : Nat) (o' : Sl) (i' : Int) w => i' = i ∧ i ≤ 5 ∧ o'.len = 4 * i ∧ St F0 w0 w (rdA 1 o' (u8s ((s.l.take i).flatMap word4)) :: blkA nb c :: ps)) (fun i => 5 - i) 0 ⟨rfl, by omega, rfl, (h.drop.nil 1).ro⟩ ?_
  clear h
  rintro i o i' w I μ ⟨rfl, hi, ho, h⟩ hin
  unfold sha_Hash_Sum.b1
  refine br_d (fun h1 => ?_) (fun h1 => ?_)
  · refine ⟨by omega, ?_⟩
    have ei : ((i : Int)).toNat * 1 = i := by omega
    have hil : i < s.l.length := by rw [W5.l_length]; omega
    rw [ei]
    refine ⟨s.l[i], ?_, ?_⟩
    · rw [arr_get]; simp [u32s, hil]
    have hb := hok s.l[i] (List.getElem_mem hil)
    refine lt_as (wrap_i64 (by omega) (by omega)) ?_
    have hlen := h.rd.1
    rw [u8s_length] at hlen
    refine bin_Put32.c h h.rd (by omega) fun o2 w l1 l2 h => ⟨o2, rfl, ?_⟩
    refine lt_as (wrap_i64 (by omega) (by omega)) ?_
    refine ⟨⟨rfl, rfl⟩, hin (i + 1) _ _ _ ⟨by simp, by omega, by omega, ?_⟩ (by omega)⟩
    rw [List.take_succ_eq_append_getElem hil, List.flatMap_append, List.flatMap_singleton]
    exact h.tail fun _ _ _ h => h.drop
  · have : i = 5 := by omega
    subst this
    have hfl : s.l.take 5 = s.l := rfl
    rw [hfl] at h
    unfold sha_Hash_Sum.j5
    refine ⟨by omega, ?_⟩
    have hr := h.rd
    obtain ⟨a, ha, _⟩ := hr.2 0 (by show 0 < 20; decide)
    rw [ha]
    refine nz_i ⟨⟨u8s (s.l.flatMap word4)⟩, rfl, fun j hj => ?_, ?_⟩
    · rw [hr.cell ha (by show j < 20; exact hj), arr_get]
    refine ⟨rfl, ?_⟩
    refine h.at1.stA (o := 0) (by rw [hc]; exact Nat.le_refl 20) ?_ fun w h => ?_
    · intro v hv
      have hv : v ∈ u8s (s.l.flatMap word4) := by simpa using hv
      obtain ⟨n, _, rfl⟩ := List.mem_map.1 hv
      trivial
    · have e : c.take 0 ++ (⟨u8s (s.l.flatMap word4)⟩ : Array Value).toList ++ c.drop (0 + (⟨u8s (s.l.flatMap word4)⟩ : Array Value).size) = u8s (s.l.flatMap word4) := by
        rw [List.take_zero, List.nil_append, List.drop_eq_nil_of_le (by rw [hc]; exact Nat.le_refl 20), List.append_nil]
      rw [e] at h
      refine h.blk.ldA (cs := ⟨u8s (s.l.flatMap word4)⟩) rfl (fun j hj => by rw [arr_get, Nat.zero_add]) ?_
      exact hk w h.drop.drop

theorem St.tail1 {p q r : As} (h : St F0 w0 w (p :: q :: r :: ps)) : St F0 w0 w (p :: r :: ps) := h.tail fun _ _ _ h => h.drop

theorem sha_Hash_Sum.c {hb : Nat} {xs : List Int} {K : Ending → World → Prop} (h : St F0 w0 w (shA hb xs :: ps)) (hL : xs.length ≤ 34359738368)
    (hk : ∀ w', St F0 w0 w' (shA hb xs :: ps) → K (.returned (.agg ⟨u8s (sumB xs)⟩)) w') : Calls Try.prog 62 ⟨[.pointer (some ⟨hb, 0, none⟩)]⟩ w K := by
  refine ret_k (sha_Hash_Sum.ok _ _ _ ?_)
  unfold sha_Hash_Sum
  refine h.new fun nb w h => ?_
  have hz : (zc Try.prog 51).toList.length = 20 := by rw [Array.length_toList]; exact zc_id_size
  generalize (zc Try.prog 51).toList = c at h hz
  unfold sha_Hash_Sum.j1
  refine sha_Hash_Twin.c h.at1 fun tb w h => ⟨_, rfl, ?_⟩
  refine h.new fun n1 w h => ?_
  have h := (h.blkrd (n := 1) rfl).at1
  refine sha_Hash_Write.c (s := ⟨some ⟨n1, 0, none⟩, 1, 1⟩) (zs := [128]) h (fun w' p h => h.drop.rd) (by intro x hx; rw [List.mem_singleton.1 hx]; decide) (by simp; omega) fun w h => ⟨rfl, ?_⟩
  have h := h.tail1
  unfold sha_Hash_Sum.j2
  refine loop0 (fun (j : Nat) w => j ≤ (119 - xs.length % 64) % 64 ∧ St F0 w0 w (shA tb (xs ++ [128] ++ List.replicate j 0) :: shA hb xs :: blkA nb c :: ps)) (fun j => 64 - j) 0 ⟨by omega, by simpa using h⟩ ?_
  clear h
  rintro j w I μ ⟨hj, h⟩ hin
  unfold sha_Hash_Sum.b2
  obtain ⟨rest, r1, r2, r3, h⟩ := shA_o h
  have hyl : (xs ++ [128] ++ List.replicate j 0).length = xs.length + 1 + j := by simp; omega
  refine nz_i (h.blk.ldI (o := 69) (cellsH_n r1) ?_)
  have h := shA_i r1 r2 r3 h
  refine ⟨by decide, ?_⟩
  refine lt_as (tmod_nn (by omega)) ?_
  refine br_b (fun h1 => ?_) (fun h1 => ?_)
  · have h1 : ¬ ((xs ++ [128] ++ List.replicate j 0).length : Int) % 64 = 56 := by simpa using h1
    refine h.new fun n2 w h => ?_
    have h := (h.blkrd (n := 1) rfl).at1
    refine sha_Hash_Write.c (s := ⟨some ⟨n2, 0, none⟩, 1, 1⟩) (zs := [0]) h (fun w' p h => h.drop.rd) (by intro x hx; rw [List.mem_singleton.1 hx]; decide) (by simp; omega) fun w h => ⟨rfl, ?_⟩
    refine ⟨⟨rfl, rfl, rfl⟩, hin (j + 1) _ ⟨by omega, ?_⟩ (by omega)⟩
    rw [List.replicate_succ', ← List.append_assoc]
    exact h.tail1
  · have h1 : ((xs ++ [128] ++ List.replicate j 0).length : Int) % 64 = 56 := by simpa using h1
    have hjz : j = (119 - xs.length % 64) % 64 := by omega
    unfold sha_Hash_Sum.j3
    obtain ⟨rest, r1, r2, r3, h2⟩ := shA_o h.at1
    refine nz_i (h2.blk.ldI (o := 69) (cellsH_n r1) ?_)
    refine lt_as (wrap_i64 (by omega) (by omega)) ?_
    refine bin_Put64.c (s := ⟨none, 0, 0⟩) (xs := []) h ⟨rfl, fun i hi => by simp [u8s] at hi⟩ (by simp) fun s w l1 l2 h => ⟨s, rfl, ?_⟩
    refine sha_Hash_Write.c (zs := be8 (8 * xs.length)) h.at1 (fun w' p h => h.drop.rd) (beJ_ok 8 8 _) (by rw [hyl]; show _ + 8 ≤ _; omega) fun w h => ⟨rfl, ?_⟩
    have e : xs ++ [128] ++ List.replicate j 0 ++ be8 (8 * xs.length) = padded xs := by rw [padded, zeros, hjz]
    rw [e] at h
    refine sha_Hash_Sum.out hz (h.tail1.tail fun _ _ _ h => h.at1) fun w h => hk w h

end

end Go.Proofs.Ytkajimndclhgaaa
