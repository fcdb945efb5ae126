/- Numbers as bytes: what is known; the statements on sevens. Own work. -/
import Derived.Test.YtkajimndclhgaaaBinC
import Derived.Test.YtkajimndclhgaaaByt
import Derived.Test.YtkajimndclhgaaaGBinL
import Derived.Test.YtkajimndclhgaaaOpn
namespace Go.Proofs.Ytkajimndclhgaaa
open Go Go.Proofs
set_option linter.unusedVariables false
set_option linter.unusedSimpArgs false
attribute [local irreducible] apK cpK mkK

section
variable {F0 : List Nat} {w0 w : World} {ps rest : List As} {xs : List Int}

theorem Rdb.none0 {ps : List As} : Rdb F0 w0 ⟨none, 0, 0⟩ ps 1 (u8s []) := Rdb.nil 0

theorem bin_Put16.d {s : Sl} {v : Int} {K : Ending → World → Prop} (h : St F0 w0 w ps) [Rdb F0 w0 s ps 1 (u8s xs)] (hL : xs.length ≤ 1099511627776)
    (hk : ∀ s' w', s'.len = xs.length + 2 → s'.cap = s'.len → St F0 w0 w' (rdA 1 s' (u8s (xs ++ beJ 2 2 v)) :: ps) → K (.returned (.slice s'.a s'.len s'.cap)) w') : Calls Try.prog 74 ⟨[.slice s.a s.len s.cap, .int .i64 v]⟩ w K := by
  refine ret_k (bin_Put16.ok _ _ _ _ ?_)
  unfold bin_Put16
  exact bin_put.c (n := 2) h (h.rdb s) hL (by decide) fun s' w h1 h2 h => ⟨s', rfl, hk s' w h1 h2 h⟩
theorem bin_Put32.d {s : Sl} {v : Int} {K : Ending → World → Prop} (h : St F0 w0 w ps) [Rdb F0 w0 s ps 1 (u8s xs)] (hL : xs.length ≤ 1099511627776)
    (hk : ∀ s' w', s'.len = xs.length + 4 → s'.cap = s'.len → St F0 w0 w' (rdA 1 s' (u8s (xs ++ beJ 4 4 v)) :: ps) → K (.returned (.slice s'.a s'.len s'.cap)) w') : Calls Try.prog 75 ⟨[.slice s.a s.len s.cap, .int .i64 v]⟩ w K := by
  refine ret_k (bin_Put32.ok _ _ _ _ ?_)
  unfold bin_Put32
  exact bin_put.c (n := 4) h (h.rdb s) hL (by decide) fun s' w h1 h2 h => ⟨s', rfl, hk s' w h1 h2 h⟩
theorem bin_Put64.d {s : Sl} {v : Int} {K : Ending → World → Prop} (h : St F0 w0 w ps) [Rdb F0 w0 s ps 1 (u8s xs)] (hL : xs.length ≤ 1099511627776)
    (hk : ∀ s' w', s'.len = xs.length + 8 → s'.cap = s'.len → St F0 w0 w' (rdA 1 s' (u8s (xs ++ beJ 8 8 v)) :: ps) → K (.returned (.slice s'.a s'.len s'.cap)) w') : Calls Try.prog 76 ⟨[.slice s.a s.len s.cap, .int .i64 v]⟩ w K := by
  refine ret_k (bin_Put64.ok _ _ _ _ ?_)
  unfold bin_Put64
  exact bin_put.c (n := 8) h (h.rdb s) hL (by decide) fun s' w h1 h2 h => ⟨s', rfl, hk s' w h1 h2 h⟩

theorem trovelaw1_known.c {K : Ending → World → Prop} (h : St F0 w0 w ps) (hk : ∀ w', St F0 w0 w' ps → K (.returned (.bool true)) w') : Calls Try.prog 73 ⟨[]⟩ w K := by
  refine ret_k (trovelaw1_known.ok _ _ ?_)
  unfold trovelaw1_known
  haveI : ∀ ps, Rdb F0 w0 ⟨none, 0, 0⟩ ps 1 (u8s []) := fun ps => Rdb.none0
  refine bin_Put16.d (s := ⟨none, 0, 0⟩) (xs := []) h (by decide) fun s1 w _ _ h => ⟨s1, rfl, ?_⟩
  refine bin_Put32.d h (by decide) fun s2 w _ _ h => ⟨s2, rfl, ?_⟩
  refine bin_Put64.d h (by decide) fun s3 w l3 _ h => ⟨s3, rfl, ?_⟩
  have el : (([] ++ beJ 2 2 258) ++ beJ 4 4 (-1)) ++ beJ 8 8 7 = [1, 2, 255, 255, 255, 255, 0, 0, 0, 0, 0, 0, 0, 7] := by decide
  have hl : s3.len = 14 := l3
  rw [el] at h
  have hb : allB [1, 2, 255, 255, 255, 255, 0, 0, 0, 0, 0, 0, 0, 7] := by intro x hx; simp at hx; omega
  refine bin_New.c (s := s3) h hb (by decide) fun rb w h => ⟨_, rfl, ?_⟩
  refine bin_PutOffset.c (s := ⟨none, 0, 0⟩) (xs := []) (n := 16512) h (by decide) (by decide) fun s4 w _ _ h => ⟨s4, rfl, ?_⟩
  have eo : ([] : List Int) ++ ofsEnc 16512 = [128, 128, 0] := by simp [ofsEnc, ofsHi]
  rw [eo] at h
  refine bin_Offset.c (s := s4) h (by intro x hx; simp at hx; omega) (by decide) fun w h => ⟨_, _, _, rfl, ?_⟩
  refine h.new fun nb w h => ?_
  have h := h.ownB (n := 2) rfl
  refine bin_Size.c (s := ⟨some ⟨nb, 0, none⟩, 2, 2⟩) (xs := [133, 1]) h (by intro x hx; simp at hx; omega) (by decide) fun w h => ⟨_, _, _, rfl, ?_⟩
  refine br_t1 (br_is (by simp [hl]) ?_)
  refine bin_Reader_U16.c h hb fun w h => ⟨_, rfl, br_is (by decide) ?_⟩
  refine bin_Reader_U32.c h hb fun w h => ⟨_, rfl, br_is (by decide) ?_⟩
  refine bin_Reader_U64.c h hb fun w h => ⟨_, rfl, br_is (by decide) ?_⟩
  refine bin_Reader_Err.c h ⟨_, rfl, br_is (by decide) ?_⟩
  refine bin_Reader_U8.c h hb fun w h => ⟨_, rfl, br_is (by decide) ?_⟩
  refine bin_Reader_Err.c h ⟨_, rfl, br_is (by decide) ?_⟩
  refine br_is (by decide) (br_is (by decide) (br_is (by decide) (br_is (by decide) (br_is (by decide) ?_))))
  exact hk w h.sub

theorem trovelaw1_front.c {a b : Sl} {ys : List Int} {K : Ending → World → Prop} (h : St F0 w0 w ps) [Rdb F0 w0 a ps 1 (u8s xs)] [Rdb F0 w0 b ps 1 (u8s ys)] (hx : allB xs) (hy : allB ys) (hc : b.len ≤ b.cap) (hf : ¬ ys.take xs.length = xs)
    (hk : ∀ w', St F0 w0 w' ps → K (.returned (.bool false)) w') : Calls Try.prog 91 ⟨[.slice a.a a.len a.cap, .slice b.a b.len b.cap]⟩ w K := by
  refine ret_k (trovelaw1_front.ok _ _ _ _ ?_)
  unfold trovelaw1_front
  have hla := (h.rdb a).1
  have hlb := (h.rdb b).1
  rw [ivs_length] at hla hlb
  refine h.drewK fun w h => ?_
  refine br_d (fun g => ?_) (fun g => ⟨hk w h, hk w h⟩)
  refine bd_i (n := a.len) rfl (by omega) (lt_i ?_)
  haveI := h.cutR b 0 a.len (b.cap - 0) (ys := ys.take xs.length) (by omega) (by omega) hc (by rw [List.drop_zero, Nat.sub_zero, show a.len = xs.length by omega])
  have hy2 : allB (ys.take xs.length) := fun x hx => hy x (List.mem_of_mem_take hx)
  have r1 := h.rdb ⟨cutA b.a b.cap 0 1, a.len - 0, b.cap - 0⟩
  have r2 := h.rdb a
  have e1 : (ys.take xs.length == xs) = false := beq_eq_false_iff_ne.2 hf
  have e2 : (xs == ys.take xs.length) = false := beq_eq_false_iff_ne.2 fun e => hf e.symm
  refine ⟨?_, ?_⟩
  · refine r1.btS hy2 (r2.btS hx ?_)
    rw [u8_beq hy2 hx, e1]
    exact hk w h
  · refine r2.btS hx (r1.btS hy2 ?_)
    rw [u8_beq hy2 hx, e1]
    exact hk w h

end

theorem trovelaw1_BinShort.law (v u : Int) (W : World) (hv : (Lit.int .i64 v).wf = true) (hu : (Lit.int .i64 u).wf = true) :
    Calls Try.prog 17 ⟨[.int .i64 v, .int .i64 u]⟩ W fun e w' => e = .returned (.bool true) ∧ Mod [] W w' := by
  refine ret_k (trovelaw1_BinShort.ok _ _ _ _ ?_)
  unfold trovelaw1_BinShort
  have hv := wf_i64 hv
  have hu := wf_i64 hu
  haveI : ∀ ps, Rdb [] W ⟨none, 0, 0⟩ ps 1 (u8s []) := fun ps => Rdb.none0
  refine trovelaw1_known.c (St.start0 (w := W)) fun w h => ⟨_, rfl, br_f1 ?_⟩
  unfold trovelaw1_BinShort.j1
  refine br_d (fun _ => ⟨rfl, h.mod⟩) fun g1 => ?_
  refine br_d (fun _ => ⟨rfl, h.mod⟩) fun g2 => ?_
  refine br_b (fun _ => ⟨rfl, h.mod⟩) fun g3 => ?_
  have g3 : v ≠ u := by simpa using g3
  obtain ⟨v, rfl⟩ : ∃ t : Nat, v = t := ⟨v.toNat, by omega⟩
  obtain ⟨u, rfl⟩ : ∃ t : Nat, u = t := ⟨u.toNat, by omega⟩
  have hne : v ≠ u := fun e => g3 (by rw [e])
  refine bin_PutOffset.c (s := ⟨none, 0, 0⟩) (xs := []) (n := v) h (by decide) (by omega) fun s1 w l1 c1 h => ⟨s1, rfl, ?_⟩
  unfold trovelaw1_BinShort.j2
  refine bin_PutOffset.c (s := ⟨none, 0, 0⟩) (xs := []) (n := u) h (by decide) (by omega) fun s2 w l2 c2 h => ⟨s2, rfl, ?_⟩
  refine bin_PutSize.c (s := ⟨none, 0, 0⟩) (xs := []) (n := v) h (by decide) (by omega) fun s3 w l3 c3 h => ⟨s3, rfl, ?_⟩
  unfold trovelaw1_BinShort.j3
  refine bin_PutSize.c (s := ⟨none, 0, 0⟩) (xs := []) (n := u) h (by decide) (by omega) fun s4 w l4 c4 h => ⟨s4, rfl, ?_⟩
  simp only [List.nil_append, List.length_nil, Nat.zero_add] at h l1 l2 l3 l4
  have fin : trovelaw1_BinShort.j4 s1 s2 s3 s4 (fun v w' => Ending.returned v = .returned (.bool true) ∧ Mod [] W w') w := by
    unfold trovelaw1_BinShort.j4
    refine trovelaw1_front.c (xs := ofsEnc v) (ys := ofsEnc u) h (ofsEnc_bytes v) (ofsEnc_bytes u) (by omega) (ofsEnc_front hne) fun w h => ⟨_, rfl, br_t1 ?_⟩
    refine trovelaw1_front.c (xs := ofsEnc u) (ys := ofsEnc v) h (ofsEnc_bytes u) (ofsEnc_bytes v) (by omega) (ofsEnc_front fun e => hne e.symm) fun w h => ⟨_, rfl, br_t1 ?_⟩
    refine trovelaw1_front.c (xs := sizeEnc v) (ys := sizeEnc u) h (sizeEnc_bytes v) (sizeEnc_bytes u) (by omega) (sizeEnc_front hne) fun w h => ⟨_, rfl, br_t1 ?_⟩
    refine trovelaw1_front.c (xs := sizeEnc u) (ys := sizeEnc v) h (sizeEnc_bytes u) (sizeEnc_bytes v) (by omega) (sizeEnc_front fun e => hne e.symm) fun w h => ⟨_, rfl, ?_⟩
    exact ⟨rfl, h.mod⟩
  refine br_d (fun g => ?_) (fun _ => fin)
  have m1 := ofsEnc_mono (v := v) (w := u) (by omega)
  have m2 := sizeEnc_mono u v (by omega)
  refine br_d (fun g => by omega) fun _ => ?_
  refine br_d (fun g => by omega) fun _ => fin

theorem trovelaw1_BinTails.law (v : Int) (s : Sl) (c : Int) (xs : List Int) (W : World) (hr : Rd W 1 s (u8s xs)) (hv : (Lit.int .i64 v).wf = true) (hx : ∀ n ∈ xs, (Lit.int .u8 n).wf = true) (hc : (Lit.int .i64 c).wf = true) :
    Calls Try.prog 18 ⟨[.int .i64 v, .slice s.a s.len s.cap, .int .i64 c]⟩ W fun e w' => e = .returned (.bool true) ∧ Mod [] W w' := by
  refine ret_k (trovelaw1_BinTails.ok _ _ _ _ _ ?_)
  unfold trovelaw1_BinTails
  have hb : allB xs := fun x h => wf_u8 (hx x h)
  have hl := hr.1
  rw [ivs_length] at hl
  haveI : ∀ ps, Rdb [] W ⟨none, 0, 0⟩ ps 1 (u8s []) := fun ps => Rdb.none0
  haveI : ∀ ps, Rdb [] W s ps 1 (u8s xs) := fun ps => Rdb.start hr
  refine trovelaw1_known.c (St.start0 (w := W)) fun w h => ⟨_, rfl, br_f1 ?_⟩
  refine br_d (fun _ => ⟨rfl, h.mod⟩) fun g1 => ?_
  refine br_d (fun _ => ⟨rfl, h.mod⟩) fun g2 => ?_
  refine br_d (fun _ => ⟨rfl, h.mod⟩) fun g3 => ?_
  refine br_d (fun _ => ⟨rfl, h.mod⟩) fun g4 => ?_
  obtain ⟨v, rfl⟩ : ∃ t : Nat, v = t := ⟨v.toNat, by omega⟩
  obtain ⟨c, rfl⟩ : ∃ t : Nat, c = t := ⟨c.toNat, by omega⟩
  refine bin_PutSize.c (s := ⟨none, 0, 0⟩) (xs := []) (n := v) h (by decide) (by omega) fun s1 w l1 c1 h => ⟨s1, rfl, ?_⟩
  refine bin_PutOffset.c (s := ⟨none, 0, 0⟩) (xs := []) (n := v) h (by decide) (by omega) fun s2 w l2 c2 h => ⟨s2, rfl, ?_⟩
  simp only [List.nil_append, List.length_nil, Nat.zero_add] at h l1 l2
  have b1 := sizeEnc_bytes v
  have b2 := ofsEnc_bytes v
  have n1 : (sizeEnc v).length ≤ 8 := sizeEnc_le 7 v (by rw [show (128 : Nat) ^ (7 + 1) = 72057594037927936 by decide]; omega)
  have n2 : (ofsEnc v).length ≤ 8 := by
    have := ofsHi_le 7 (v / 128) (by rw [show (128 : Nat) ^ 7 = 562949953421312 by decide]; omega)
    rw [ofsEnc, List.length_append, List.length_singleton]; omega
  have p := enc_pos v
  have cat : ∀ {a b : List Int}, allB a → allB b → allB (a ++ b) := fun ha hb x hx => by
    rcases List.mem_append.1 hx with hx | hx
    · exact ha x hx
    · exact hb x hx
  have d1 := sizeDec_enc xs v 0 0 (by omega)
  have d2 := ofsDec_enc xs v n2
  simp only [Nat.zero_add, Nat.mul_zero, Int.pow_zero, Int.mul_one, Int.zero_add] at d1
  refine h.clone (k := .u8) (s2 := s1) (by omega) fun s3 w h => ?_
  refine h.appI (s2 := s) (by omega) fun s4 w h => ?_
  refine bin_Size.c (s := s4) h (cat b1 hb) (by rw [List.length_append]; omega) fun w h => ⟨_, _, _, rfl, ?_⟩
  refine h.clone (k := .u8) (s2 := s2) (by omega) fun s5 w h => ?_
  refine h.appI (s2 := s) (by omega) fun s6 w h => ?_
  refine bin_Offset.c (s := s6) h (cat b2 hb) (by rw [List.length_append]; omega) fun w h => ⟨_, _, _, rfl, ?_⟩
  rw [d1, d2]
  refine br_no (by simp) (br_no (by simp [l1]) (br_no (by simp) (br_no (by simp) (br_no (by simp [l2]) (br_no (by simp) ?_)))))
  refine ⟨by omega, lt_as (tmod_nn (by omega)) ?_⟩
  have e1 : (c : Int) % ((s1.len : Nat) : Int) = ((c % s1.len : Nat) : Int) := by rw [Int.natCast_emod]
  have e2 : (c : Int) % ((s2.len : Nat) : Int) = ((c % s2.len : Nat) : Int) := by rw [Int.natCast_emod]
  have m1 : c % s1.len < s1.len := Nat.mod_lt _ (by omega)
  have m2 : c % s2.len < s2.len := Nat.mod_lt _ (by omega)
  rw [e1]
  generalize c % s1.len = u1 at m1
  refine bd_i rfl (by omega) (lt_i ?_)
  have k1 := ended_take (sizeEnc_ended v) (n := u1) (by omega)
  have k2 := ended_take (ofsEnc_ended v) (n := c % s2.len) (by omega)
  haveI := h.cutR s1 0 u1 (s1.cap - 0) (ys := (sizeEnc v).take u1) (by omega) (by omega) (by omega) (by simp)
  refine bin_Size.c (s := ⟨cutA s1.a s1.cap 0 1, u1 - 0, s1.cap - 0⟩) (xs := (sizeEnc v).take u1) h (fun x hx => b1 x (List.mem_of_mem_take hx)) (by rw [List.length_take]; omega) fun w h => ⟨_, _, _, rfl, ?_⟩
  refine ⟨by omega, lt_as (tmod_nn (by omega)) ?_⟩
  rw [e2]
  generalize c % s2.len = u2 at m2 k2
  refine bd_i rfl (by omega) (lt_i ?_)
  haveI := h.cutR s2 0 u2 (s2.cap - 0) (ys := (ofsEnc v).take u2) (by omega) (by omega) (by omega) (by simp)
  refine bin_Offset.c (s := ⟨cutA s2.a s2.cap 0 1, u2 - 0, s2.cap - 0⟩) (xs := (ofsEnc v).take u2) h (fun x hx => b2 x (List.mem_of_mem_take hx)) (by rw [List.length_take]; omega) fun w h => ⟨_, _, _, rfl, ?_⟩
  rw [sizeDec_short _ 0 0 (by rw [List.length_take]; omega) k1, ofsDec_short _ 0 0 (by rw [List.length_take]; omega) k2]
  exact ⟨rfl, h.mod⟩

end Go.Proofs.Ytkajimndclhgaaa
