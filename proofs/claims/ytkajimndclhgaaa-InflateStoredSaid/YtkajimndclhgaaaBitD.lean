/- The statement on a number that is put in two halves: what its text answers. Own work. -/
import Derived.Test.YtkajimndclhgaaaBitC
import Derived.Test.YtkajimndclhgaaaGBitL
namespace Go.Proofs.Ytkajimndclhgaaa
open Go Go.Proofs
set_option linter.unusedVariables false
set_option linter.unusedSimpArgs false
attribute [local irreducible] apK cpK mkK

def u8 (xs : List Int) : List UInt8 := xs.map fun x => UInt8.ofNat x.toNat

theorem byt_ok (V N : Nat) : ∀ x ∈ byt V N, 0 ≤ x ∧ x < 256 := by
  intro x hx
  obtain ⟨i, _, rfl⟩ := List.mem_map.1 hx
  omega

theorem Rd.btS {w : World} {s : Sl} {xs : List Int} {K : ByteArray → Prop} (h : Rd w 1 s (u8s xs)) (hx : ∀ x ∈ xs, 0 ≤ x ∧ x < 256) (hk : K ⟨⟨u8 xs⟩⟩) : btS w s.a s.len K := by
  have hl := h.1
  rw [u8s_length, Nat.mul_one] at hl
  unfold Go.Proofs.Ytkajimndclhgaaa.btS
  cases e : s.a with
  | none =>
    cases xs with
    | nil => exact hk
    | cons x xs =>
      obtain ⟨a, ha, _⟩ := h.2 0 (by simp [u8s])
      rw [e] at ha; cases ha
  | some a =>
    refine ⟨u8 xs, by simp [u8, hl], fun j hj => ?_, hk⟩
    rw [h.cell e (by rw [u8s_length]; omega)]
    have hj' : j < xs.length := by omega
    simp only [u8s, u8, List.getElem?_map, List.getElem?_eq_getElem hj', Option.map_some]
    have := hx _ (List.getElem_mem hj')
    congr 2
    rw [UInt8.toNat_ofNat']
    omega

theorem bitsOf_add (v : Int) (a b : Nat) : bitsOf v (a + b) = bitsOf v a ++ bitsOf (v / 2 ^ a) b := by
  unfold bitsOf
  rw [List.range_add, List.map_append, List.map_map]
  congr 1
  apply List.map_congr_left
  intro i _
  simp only [Function.comp, bt]
  congr 2
  have h : (0 : Int) ≤ 2 ^ a := Int.le_of_lt (Int.pow_pos (by decide))
  rw [Int.pow_add, Int.ediv_ediv_of_nonneg h]

section
variable {F0 : List Nat} {w0 w : World} {ps : List As}

theorem trovelaw2_known.c {K : Ending → World → Prop} (h : St F0 w0 w ps) (hk : ∀ w', St F0 w0 w' ps → K (.returned (.bool true)) w') : Calls Try.prog 32 ⟨[]⟩ w K := by
  refine ret_k (trovelaw2_known.ok _ _ ?_)
  unfold trovelaw2_known
  refine bits_NewWriter.c h fun wb w h => ⟨_, rfl, ?_⟩
  refine br_b (fun h1 => by cases h1) fun _ => ?_
  refine bits_Writer_Put.cl h (by decide) fun w h => ⟨rfl, ?_⟩
  refine bits_Writer_Code.c h (by decide) fun w h => ⟨rfl, ?_⟩
  refine bits_Writer_Byte.c h (by decide) (by decide) fun w h => ⟨rfl, ?_⟩
  have el : ((([] ++ pb 5 3) ++ (pb 1 2).reverse) ++ pad (([] ++ pb 5 3) ++ (pb 1 2).reverse)) ++ bitsOf 9 8 = [true, false, true, false, true, false, false, false, true, false, false, true, false, false, false, false] := by decide
  rw [el] at h
  refine bits_Writer_Done.c h (by decide) fun s w hs hc h => ⟨s, rfl, ?_⟩
  refine bits_NewReader.c h h.rd (by decide) fun rb w h => ⟨_, rfl, ?_⟩
  refine br_b (fun h1 => by cases h1) fun _ => ?_
  have hs2 : s.len = 2 := hs
  refine br_b (fun h1 => by rw [hs2] at h1; cases h1) fun _ => ?_
  have hr := h.at1.rd
  refine hr.ix (by decide) (by decide) (by rw [hs2]; decide) fun a ha => ?_
  refine hr.ldI (i := 1) ha rfl ?_
  refine br_b (fun h1 => absurd h1 (by decide)) fun _ => ?_
  refine bits_Reader_Get.c h (by decide) (by decide) (fun _ w h => ⟨_, _, rfl, ?_⟩) (fun h1 => absurd h1 (by decide))
  refine bits_Reader_Get.c h (by decide) (by decide) (fun _ w h => ⟨_, _, rfl, ?_⟩) (fun h1 => absurd h1 (by decide))
  refine br_b (fun _ => ?_) (fun h1 => absurd h1 (by decide))
  refine br_b (fun _ => ?_) (fun h1 => by cases h1)
  refine br_b (fun _ => ?_) (fun h1 => absurd h1 (by decide))
  refine bits_Reader_Left.c h (by decide) (by decide) fun w h => ⟨_, rfl, ?_⟩
  refine br_b (fun _ => ?_) (fun h1 => absurd h1 (by decide))
  refine bits_Reader_Past.c h (by decide) fun h => ⟨_, rfl, ?_⟩
  refine br_b (fun _ => ?_) (fun h1 => absurd h1 (by decide))
  refine bits_Turn.c ⟨_, rfl, ?_⟩
  exact hk w h.drop.drop.drop

end

theorem eqbytes (x : List UInt8) : (!(ByteArray.toList ⟨⟨x⟩⟩ == ByteArray.toList ⟨⟨x⟩⟩)) = false := by simp

theorem trovelaw2_BitsSplit.law (a v n c : Int) (w : World) : Calls Try.prog 6 ⟨[.int .i64 a, .int .i64 v, .int .i64 n, .int .i64 c]⟩ w fun e w' => e = .returned (.bool true) ∧ Mod [] w w' := by
  refine ret_k (trovelaw2_BitsSplit.ok _ _ _ _ _ _ ?_)
  unfold trovelaw2_BitsSplit trovelaw2_BitsSplit.j1
  refine trovelaw2_known.c (St.start0 (w := w)) fun w1 h => ⟨_, rfl, ?_⟩
  have done : ∀ {w'}, St [] w w' [] → (Ending.returned (.bool true) = Ending.returned (.bool true) ∧ Mod [] w w') := fun h => ⟨rfl, h.mod⟩
  refine br_b (fun h1 => by cases h1) fun _ => ?_
  refine br_d (fun _ => done h) fun g1 => ?_
  refine br_d (fun _ => done h) fun g2 => ?_
  refine br_d (fun _ => done h) fun g3 => ?_
  refine br_d (fun _ => done h) fun g4 => ?_
  refine br_d (fun _ => done h) fun g5 => ?_
  refine br_d (fun _ => done h) fun g6 => ?_
  obtain ⟨A, rfl⟩ : ∃ t : Nat, a = t := ⟨a.toNat, by omega⟩
  obtain ⟨N, rfl⟩ : ∃ t : Nat, n = t := ⟨n.toNat, by omega⟩
  obtain ⟨C, rfl⟩ : ∃ t : Nat, c = t := ⟨c.toNat, by omega⟩
  unfold trovelaw2_BitsSplit.j2
  refine bits_NewWriter.c h fun wa w2 h => ⟨_, rfl, ?_⟩
  refine bits_NewWriter.c h fun wb w3 h => ⟨_, rfl, ?_⟩
  unfold trovelaw2_BitsSplit.j3
  refine bits_Writer_Put.cl h.at1 (by decide) fun w4 h => ⟨rfl, ?_⟩
  refine bits_Writer_Put.cl h.at1 (by decide) fun w5 h => ⟨rfl, ?_⟩
  have hA : ([] : List Bool) ++ pb (-1) A = bitsOf (-1) A := by
    unfold pb; rw [if_pos (by omega)]; rfl
  rw [hA] at h
  have hlA : (bitsOf (-1) A).length = A := bitsOf_length _ _
  unfold trovelaw2_BitsSplit.j4
  refine bits_Writer_Put.cl h.at1 (by rw [hlA]; omega) fun w6 h => ⟨rfl, ?_⟩
  refine bits_Writer_Put.cl h.at1 (by rw [hlA]; omega) fun w7 h => ⟨rfl, ?_⟩
  have hN : pb v N = bitsOf v N := by unfold pb; rw [if_pos (by omega)]; rfl
  have hC : pb v C = bitsOf v C := by unfold pb; rw [if_pos (by omega)]; rfl
  rw [hN, hC] at h
  unfold trovelaw2_BitsSplit.j5
  have wrC : IntKind.u64.wrap (C : Int) = C := by rw [wrap_u64]; omega
  refine lt_as wrC ?_
  refine ⟨by omega, ?_⟩
  refine lt_as (shrV_nat .i64 _ (show C ≤ 64 by omega)) ?_
  refine lt_as (wrap_i64 (by omega) (by omega)) ?_
  refine bits_Writer_Put.cl h (by rw [List.length_append, hlA, bitsOf_length]; omega) fun w8 h => ⟨rfl, ?_⟩
  have hNC : pb (v / 2 ^ C) ((N : Int) - C) = bitsOf (v / 2 ^ C) (N - C) := by
    unfold pb; rw [if_pos (by omega)]; congr 1; omega
  have hrow : bitsOf (-1) A ++ bitsOf v C ++ bitsOf (v / 2 ^ C) (N - C) = bitsOf (-1) A ++ bitsOf v N := by
    rw [List.append_assoc, ← bitsOf_add, show C + (N - C) = N by omega]
  rw [hNC, hrow] at h
  have hlen : (bitsOf (-1) A ++ bitsOf v N).length = A + N := by rw [List.length_append, hlA, bitsOf_length]
  have hval : val (bitsOf (-1) A ++ bitsOf v N) = val (bitsOf (-1) A) + 2 ^ A * val (bitsOf v N) := by rw [val_append, hlA]
  have hsplit : val (bitsOf v N) = val (bitsOf v C) + 2 ^ C * val (bitsOf (v / 2 ^ C) (N - C)) := by
    have := val_append (bitsOf v C) (bitsOf (v / 2 ^ C) (N - C))
    rw [← bitsOf_add, show C + (N - C) = N by omega, bitsOf_length] at this
    exact this
  generalize hl : bitsOf (-1) A ++ bitsOf v N = l at h hrow hlen hval
  have rest : ∀ (w' : World) (ps : List As), St [] w w' (wrL wa l :: wrL wb l :: ps) → (
      lt (IntKind.i64.wrap ((A : Int) + N)) fun x47 =>
      Calls Try.prog 48 ⟨[.pointer (some ⟨wa, 0, none⟩)]⟩ w' fun e48 w49 =>
      ∃ r50 : Int, e48 = .returned (.int .i64 r50) ∧
      br ((r50 : Int) != x47) (
      (fun v w' => Ending.returned v = Ending.returned (.bool true) ∧ Mod [] w w') (.bool false) w49) (
      Calls Try.prog 48 ⟨[.pointer (some ⟨wb, 0, none⟩)]⟩ w49 fun e51 w52 =>
      ∃ r53 : Int, e51 = .returned (.int .i64 r53) ∧
      Calls Try.prog 48 ⟨[.pointer (some ⟨wa, 0, none⟩)]⟩ w52 fun e54 w55 =>
      ∃ r56 : Int, e54 = .returned (.int .i64 r56) ∧
      br ((r53 : Int) != r56) (
      (fun v w' => Ending.returned v = Ending.returned (.bool true) ∧ Mod [] w w') (.bool false) w55) (
      trovelaw2_BitsSplit.j6 A v N C (some ⟨wa, 0, none⟩) (fun v w' => Ending.returned v = Ending.returned (.bool true) ∧ Mod [] w w') w55))) := by
    intro w' ps h
    refine lt_as (wrap_i64 (by omega) (by omega)) ?_
    refine bits_Writer_Len.c h (by omega) fun w' h => ⟨_, rfl, ?_⟩
    refine br_b (fun h1 => by simp at h1; omega) fun _ => ?_
    refine bits_Writer_Len.c h.at1 (by omega) fun w' h => ⟨_, rfl, ?_⟩
    refine bits_Writer_Len.c h.at1 (by omega) fun w' h => ⟨_, rfl, ?_⟩
    refine br_b (fun h1 => by simp at h1) fun _ => ?_
    unfold trovelaw2_BitsSplit.j6
    refine bits_Writer_Done.c h (by omega) fun s w' hs hc h => ⟨s, rfl, ?_⟩
    refine bits_NewReader.c h h.rd (by omega) fun rb w' h => ⟨_, rfl, ?_⟩
    have no : ∀ {x y z}, getOk ((l.length + 7) / 8) x y = false → 0 ≤ y ∧ y ≤ 24 ∧ (x : Int) + y ≤ A + N → z := by
      intro x y z h1 h2
      simp [getOk] at h1
      omega
    refine bits_Reader_Get.c h (by omega) (by omega) (fun _ w' h => ⟨_, _, rfl, ?_⟩) (fun h1 => no h1 (by omega))
    refine bits_Reader_Get.c h (by omega) (by omega) (fun _ w' h => ⟨_, _, rfl, ?_⟩) (fun h1 => no h1 (by omega))
    refine lt_as (wrap_i64 (by omega) (by omega)) ?_
    refine bits_Reader_Get.c h (by omega) (by omega) (fun _ w' h => ⟨_, _, rfl, ?_⟩) (fun h1 => no h1 (by omega))
    refine br_b (fun _ => ?_) (fun h1 => by cases h1)
    refine br_b (fun _ => ?_) (fun h1 => by cases h1)
    have t1 : (0 + ((A : Nat) : Int).toNat) = A := by omega
    have t2 : ((C : Nat) : Int).toNat = C := by omega
    have t3 : ((N : Int) - C).toNat = N - C := by omega
    rw [t1, t2, t3]
    have vA := val_lt (bitsOf (-1) A)
    rw [hlA] at vA
    have q1 : val l / 2 ^ A = val (bitsOf v N) := by
      rw [hval, Nat.add_mul_div_left _ _ (Nat.pow_pos (by decide)), Nat.div_eq_of_lt vA, Nat.zero_add]
    have vC := val_lt (bitsOf v C)
    rw [bitsOf_length] at vC
    have vD := val_lt (bitsOf (v / 2 ^ C) (N - C))
    rw [bitsOf_length] at vD
    have q2 : val l / 2 ^ A % 2 ^ C = val (bitsOf v C) := by
      rw [q1, hsplit, Nat.add_mul_mod_self_left, Nat.mod_eq_of_lt vC]
    have q3 : val l / 2 ^ (A + C) % 2 ^ (N - C) = val (bitsOf (v / 2 ^ C) (N - C)) := by
      rw [Nat.pow_add, ← Nat.div_div_eq_div_mul, q1, hsplit, Nat.add_mul_div_left _ _ (Nat.pow_pos (by decide)), Nat.div_eq_of_lt vC, Nat.zero_add, Nat.mod_eq_of_lt vD]
    rw [q2, q3]
    refine lt_as wrC ?_
    refine ⟨by omega, ?_⟩
    have b1 : (2 : Nat) ^ C ≤ 2 ^ 24 := Nat.pow_le_pow_right (by decide) (by omega)
    have b2 : (2 : Nat) ^ (N - C) ≤ 2 ^ 24 := Nat.pow_le_pow_right (by decide) (by omega)
    have b3 : val (bitsOf (v / 2 ^ C) (N - C)) * 2 ^ C ≤ 2 ^ 24 * 2 ^ 24 := Nat.mul_le_mul (by omega) b1
    have b4 : ((val (bitsOf (v / 2 ^ C) (N - C)) * 2 ^ C : Nat) : Int) = (val (bitsOf (v / 2 ^ C) (N - C)) : Int) * 2 ^ C := by simp
    refine lt_as (shlV_nat .i64 (show C ≤ 64 by omega) (by omega) (by rw [← b4]; show _ < 2 ^ 63; omega)) ?_
    refine lt_as (orV_add .i64 vC (by show _ < 2 ^ 63; omega)) ?_
    have wrN : IntKind.u64.wrap (N : Int) = N := by rw [wrap_u64]; omega
    refine lt_as wrN ?_
    refine ⟨by omega, ?_⟩
    have p1 : (2 : Nat) ^ N ≤ 2 ^ 24 := Nat.pow_le_pow_right (by decide) (by omega)
    have p2 : ((2 ^ N : Nat) : Int) = 2 ^ N := by simp
    have p3 : (0 : Int) < 2 ^ N := Int.pow_pos (by decide)
    refine lt_as (shlV_nat .i64 (show N ≤ 64 by omega) (by omega) (by show (1 : Int) * 2 ^ N < 2 ^ 63; omega)) ?_
    rw [Int.one_mul]
    refine lt_as (wrap_i64 (by omega) (by omega)) ?_
    refine lt_as (andV_mod .i64 _ (show N < 64 by omega)) ?_
    have hv := val_bitsOf v N
    have e3 : (val (bitsOf v C) : Int) + (val (bitsOf (v / 2 ^ C) (N - C)) : Int) * 2 ^ C = v % 2 ^ N := by
      rw [← hv, hsplit, Int.natCast_add, Int.natCast_mul, Int.mul_comm]
      simp
    refine br_b (fun _ => ?_) (fun h1 => by rw [e3] at h1; simp at h1)
    refine bits_Reader_Past.c h (by omega) fun h => ⟨_, rfl, ?_⟩
    refine lt_as (wrap_i64 (by omega) (by omega)) ?_
    refine lt_as (wrap_i64 (by omega) (by omega)) ?_
    refine ⟨by decide, ?_⟩
    rw [tdiv_nn (by omega)]
    refine lt_as (wrap_i64 (by omega) (by omega)) ?_
    have e4 : (((0 + ((A : Nat) : Int).toNat + ((C : Nat) : Int).toNat + ((N : Int) - C).toNat + 7) / 8 : Nat) : Int) = ((A : Int) + N + 7) / 8 := by omega
    rw [e4]
    refine ⟨by simp, h.mod⟩
  refine h.drewK fun w' h => ?_
  refine bits_Writer_Done.c h.at1 (by omega) fun s w' hs hc h => ⟨s, rfl, ?_⟩
  have hb := byt_ok (val l) ((l.length + 7) / 8)
  refine ⟨?_, ?_⟩
  · refine h.rd.btS hb ?_
    refine bits_Writer_Done.c h.at2 (by omega) fun s' w' hs' hc' h => ⟨s', rfl, ?_⟩
    refine h.rd.btS hb ?_
    refine br_b (fun h1 => by rw [eqbytes] at h1; cases h1) fun _ => ?_
    exact rest w' _ h.drop.at2
  · refine bits_Writer_Done.c h.at2 (by omega) fun s' w' hs' hc' h => ⟨s', rfl, ?_⟩
    refine ⟨?_, ?_⟩
    · refine h.at2.rd.btS hb ?_
      refine h.rd.btS hb ?_
      refine br_b (fun h1 => by rw [eqbytes] at h1; cases h1) fun _ => ?_
      exact rest w' _ h.drop.at2
    · refine h.rd.btS hb ?_
      refine h.at2.rd.btS hb ?_
      refine br_b (fun h1 => by rw [eqbytes] at h1; cases h1) fun _ => ?_
      exact rest w' _ h.drop.at2

end Go.Proofs.Ytkajimndclhgaaa
