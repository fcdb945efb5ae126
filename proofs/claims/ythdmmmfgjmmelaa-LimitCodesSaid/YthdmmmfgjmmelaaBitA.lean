/- The writer of bits: what its methods do to it. Own work. -/
import Derived.Test.YthdmmmfgjmmelaaSt
import Derived.Test.YthdmmmfgjmmelaaGBit
import Derived.Test.YthdmmmfgjmmelaaGLib
namespace Go.Proofs.Ythdmmmfgjmmelaa
open Go Go.Proofs
set_option linter.unusedVariables false
set_option linter.unusedSimpArgs false

attribute [local irreducible] apK cpK mkK

/-! ### 1. bytes as numbers -/

/-- the k lowest bytes of a number -/
def byt (V k : Nat) : List Int := (List.range k).map fun i => ((V / 2 ^ (8 * i) % 256 : Nat) : Int)

theorem byt_length (V k : Nat) : (byt V k).length = k := by simp [byt]
theorem byt_succ (V k : Nat) : byt V (k + 1) = byt V k ++ [((V / 2 ^ (8 * k) % 256 : Nat) : Int)] := by simp [byt, List.range_succ]
theorem byt_above (V W k L : Nat) (h : 8 * k ≤ L) : byt (V + 2 ^ L * W) k = byt V k := by
  unfold byt
  apply List.map_congr_left
  intro i hi
  have hi := List.mem_range.1 hi
  congr 1
  have e : 2 ^ L * W = 2 ^ (8 * i) * (256 * (2 ^ (L - 8 * i - 8) * W)) := by
    rw [← Nat.mul_assoc, ← Nat.mul_assoc]
    congr 1
    rw [show (256 : Nat) = 2 ^ 8 from rfl, ← Nat.pow_add, ← Nat.pow_add]
    congr 1
    omega
  rw [e, Nat.add_mul_div_left _ _ (Nat.pow_pos (by decide)), Nat.add_mul_mod_self_left]

abbrev u8s (l : List Int) : List Value := l.map (Value.int .u8)
theorem u8s_append (a b : List Int) : u8s (a ++ b) = u8s a ++ u8s b := by simp [u8s]
theorem u8s_length (a : List Int) : (u8s a).length = a.length := by simp [u8s]

theorem info_u8 : Try.prog.info? 5 = some Try.t5 := by kernel_rfl
theorem zc_u8 : zc Try.prog 5 = #[.int .u8 0] := by kernel_rfl


section
variable {F0 : List Nat} {w0 w : World} {ps : List As}

/-- the cells of a block are read -/
theorem St.rdB {b k : Nat} {l : List Value} {K : Array Value → Prop} (h : St F0 w0 w (blkA b l :: ps)) (hk : k = l.length) (hK : K ⟨l⟩) : rdO w (some ⟨b, 0, none⟩) k K := by
  subst hk
  refine ⟨⟨l⟩, rfl, fun i hi => ?_, hK⟩
  rw [add_mk, h.blk.cell, Nat.zero_add]
  simp

/-- one byte behind a slice of one's own -/
theorem St.append_u8 {s : Sl} {xs : List Int} {c : Array Value} {x : Int} {K : Sl → World → Prop} (h : St F0 w0 w (ownA 1 s (u8s xs) :: ps)) (hlen : xs.length ≤ 35184372088832) (hc : c = ⟨[.int .u8 x]⟩)
    (hk : ∀ s' w', St F0 w0 w' (ownA 1 s' (u8s (xs ++ [x])) :: ps) → K s' w') : apK Try.prog 5 w s.a s.len s.cap 1 c K := by
  subst hc
  have hl := h.len
  rw [u8s_length] at hl
  have h1 : (Try.t5).size = 1 := rfl
  have h2 : (Try.t5).bytes = 1 := rfl
  have h4 : (zc Try.prog 5).size = 1 := by rw [zc_u8]; rfl
  have h5 : (Try.t5).bytes ≠ 0 := by rw [h2]; decide
  have h6 : (⟨[.int .u8 x]⟩ : Array Value).size = 1 * 1 := rfl
  have h7 : ∀ v ∈ (⟨[.int .u8 x]⟩ : Array Value), storable v := by simp [storable]
  refine St.append (i := Try.t5) (sz := 1) (m := 1) info_u8 h1 (by decide) h4 h5 (by rw [h2]; omega) h h6 h7 ?_
  intro s' w' ho _
  refine hk s' w' ?_
  rw [u8s_append]
  exact ho

end

/-! ### 2. the writer -/

/-- at wb stands a writer of L bits, together the number V; k bytes of it are out -/
def wrK (wb L V k : Nat) : As := exA fun s : Sl => ifA (8 * k ≤ L ∧ V < 2 ^ L) <| andA
  (blkA wb [.slice s.a s.len s.cap, .int .u64 ((V / 2 ^ (8 * k) : Nat) : Int), .int .i64 ((L - 8 * k : Nat) : Int)]) (ownA 1 s (u8s (byt V k)))

def wrA (wb L V : Nat) : As := wrK wb L V (L / 8)

def putL (L : Nat) (n : Int) : Nat := if 0 ≤ n ∧ n ≤ 24 then L + n.toNat else L
def putV (L V : Nat) (v n : Int) : Nat := if 0 ≤ n ∧ n ≤ 24 then V + 2 ^ L * (v % 2 ^ n.toNat).toNat else V

theorem low_lt (v : Int) (t : Nat) : (v % 2 ^ t).toNat < 2 ^ t := by
  have h1 : (0 : Int) < 2 ^ t := Int.pow_pos (by decide)
  have h2 := Int.emod_lt_of_pos v h1
  have h3 := Int.emod_nonneg v (show (2 : Int) ^ t ≠ 0 by omega)
  have h4 : ((2 ^ t : Nat) : Int) = 2 ^ t := by simp
  omega

theorem put_lt {L V W t : Nat} (hV : V < 2 ^ L) (hW : W < 2 ^ t) : V + 2 ^ L * W < 2 ^ (L + t) := by
  rw [Nat.pow_add]
  have : 2 ^ L * (W + 1) ≤ 2 ^ L * 2 ^ t := Nat.mul_le_mul_left _ hW
  rw [Nat.mul_add, Nat.mul_one] at this
  omega

theorem div_pow_lt {V L k : Nat} (hV : V < 2 ^ L) (hk : 8 * k ≤ L) : V / 2 ^ (8 * k) < 2 ^ (L - 8 * k) := by
  rw [Nat.div_lt_iff_lt_mul (Nat.pow_pos (by decide)), ← Nat.pow_add]
  rw [show L - 8 * k + 8 * k = L by omega]
  exact hV

theorem div_above {V W L k : Nat} (h : 8 * k ≤ L) : (V + 2 ^ L * W) / 2 ^ (8 * k) = V / 2 ^ (8 * k) + W * 2 ^ (L - 8 * k) := by
  have e : 2 ^ L * W = 2 ^ (8 * k) * (W * 2 ^ (L - 8 * k)) := by
    rw [Nat.mul_comm W, ← Nat.mul_assoc, ← Nat.pow_add]
    congr 2
    omega
  rw [e, Nat.add_mul_div_left _ _ (Nat.pow_pos (by decide))]


section
variable {F0 : List Nat} {w0 w : World} {ps : List As}

theorem bits_Writer_Put.loop {wb L V k : Nat} {Q : Value → World → Prop} (h : St F0 w0 w (wrK wb L V k :: ps)) (hL : L ≤ 1099511627776) (hs : L - 8 * k < 64)
    (hq : ∀ w', St F0 w0 w' (wrA wb L V :: ps) → Q (.tuple ⟨[]⟩) w') : bits_Writer_Put.l1 (some ⟨wb, 0, none⟩) Q w := by
  refine loop0 (fun k w => St F0 w0 w (wrK wb L V k :: ps) ∧ L - 8 * k < 64) (fun k => L - 8 * k) k ⟨h, hs⟩ ?_
  clear h hs
  rintro k w I μ ⟨h, hs⟩ hin
  obtain ⟨s, h⟩ := h.exE
  obtain ⟨⟨hk, hV⟩, h⟩ := h.ifE
  have h := h.split
  unfold bits_Writer_Put.b1
  refine nz_i (h.blk.ldI (o := 2) rfl ?_)
  refine br_d (fun h8 => ?_) (fun h8 => ?_)
  · have hk8 : 8 * (k + 1) ≤ L := by omega
    refine h.drewK fun w h => ?_
    refine nz_i (h.blk.ldL (o := 0) rfl ?_)
    refine nz_i (h.blk.ldI (o := 1) rfl ?_)
    refine lt_as (wrap_u8 _) ?_
    refine h.new fun nb w h => ?_
    refine h.rdB rfl ?_
    have h := h.at2
    refine h.append_u8 (by rw [byt_length]; omega) rfl fun s3 w h => ?_
    have h := h.at2
    refine nz_i (h.st (o := 0) (by simp) trivial fun w h => ?_)
    refine nz_i (h.blk.ldI (o := 1) rfl ?_)
    refine ⟨by omega, ?_⟩
    refine lt_as (shrV_nat .u64 _ (t := 8) (by decide)) ?_
    refine nz_i (h.st (o := 1) (by simp) trivial fun w h => ?_)
    refine nz_i (h.blk.ldI (o := 2) rfl ?_)
    refine lt_as (wrap_i64 (by omega) (by omega)) ?_
    refine nz_i (h.st (o := 2) (by simp) trivial fun w h => ?_)
    refine ⟨rfl, hin (k + 1) w ⟨?_, by omega⟩ (by omega)⟩
    have e1 : ((V / 2 ^ (8 * k) : Nat) : Int) / 2 ^ 8 = ((V / 2 ^ (8 * (k + 1)) : Nat) : Int) := by
      rw [show 8 * (k + 1) = 8 * k + 8 by omega, Nat.pow_add, ← Nat.div_div_eq_div_mul]
      simp
    have e2 : ((L - 8 * k : Nat) : Int) - 8 = ((L - 8 * (k + 1) : Nat) : Int) := by omega
    have e3 : ((V / 2 ^ (8 * k) : Nat) : Int) % 256 = ((V / 2 ^ (8 * k) % 256 : Nat) : Int) := by omega
    rw [e1, e2, e3, ← byt_succ] at h
    have h := h.join
    have h := h.ifI (c := 8 * (k + 1) ≤ L ∧ V < 2 ^ L) ⟨hk8, hV⟩
    exact (h.exI (p := fun s : Sl => ifA (8 * (k + 1) ≤ L ∧ V < 2 ^ L) <| andA (blkA wb [.slice s.a s.len s.cap, .int .u64 ((V / 2 ^ (8 * (k + 1)) : Nat) : Int), .int .i64 ((L - 8 * (k + 1) : Nat) : Int)]) (ownA 1 s (u8s (byt V (k + 1))))) s3).tail (fun _ _ _ h => h.drop)
  · have hkk : k = L / 8 := by omega
    subst hkk
    exact hq w ((h.join.ifI ⟨hk, hV⟩).exI s)

theorem bits_Writer_Put.c {wb L V : Nat} {v n : Int} {K : Ending → World → Prop} (h : St F0 w0 w (wrA wb L V :: ps)) (hL : L ≤ 549755813888)
    (hk : ∀ w', St F0 w0 w' (wrA wb (putL L n) (putV L V v n) :: ps) → K (.returned (.tuple ⟨[]⟩)) w') : Calls Try.prog 91 ⟨[.pointer (some ⟨wb, 0, none⟩), .int .i64 v, .int .i64 n]⟩ w K := by
  refine ret_k (bits_Writer_Put.ok _ _ _ _ _ ?_)
  unfold bits_Writer_Put
  refine br_d (fun h1 => ?_) (fun h1 => ?_)
  · rw [putL, putV, if_neg (by omega), if_neg (by omega)] at hk
    exact hk w h
  refine br_d (fun h2 => ?_) (fun h2 => ?_)
  · rw [putL, putV, if_neg (by omega), if_neg (by omega)] at hk
    exact hk w h
  rw [putL, putV, if_pos (by omega), if_pos (by omega)] at hk
  obtain ⟨t, rfl⟩ : ∃ t : Nat, n = t := ⟨n.toNat, by omega⟩
  have ht : t ≤ 24 := by omega
  rw [Int.toNat_natCast] at hk
  obtain ⟨s, h⟩ := h.exE
  obtain ⟨⟨hk8, hV⟩, h⟩ := h.ifE
  have h := h.split
  unfold bits_Writer_Put.j1
  refine h.drewK fun w h => ?_
  refine nz_i (h.blk.ldI (o := 1) rfl ?_)
  refine lt_as (wrap_u64 _) ?_
  refine ⟨by omega, ?_⟩
  have hp : (1 : Int) * 2 ^ t < 2 ^ (IntKind.u64.bits - 1) := by
    rw [Int.one_mul]
    exact_mod_cast Nat.pow_lt_pow_right (by decide) (show t < IntKind.u64.bits - 1 from Nat.lt_of_le_of_lt ht (by decide))
  have hp0 : (0 : Int) < 2 ^ t := Int.pow_pos (by decide)
  refine lt_as (shlV_nat .u64 (show t ≤ 64 by omega) (by omega) hp) ?_
  rw [Int.one_mul] at hp ⊢
  refine lt_as (wrap_fit .u64 (by omega) (by omega)) ?_
  refine lt_as (andV_mod .u64 _ (show t < 64 by omega)) ?_
  have e0 : v % 18446744073709551616 % 2 ^ t = v % 2 ^ t := Int.emod_emod_of_dvd _ ⟨2 ^ (64 - t), by rw [← Int.pow_add, show t + (64 - t) = 64 by omega]; rfl⟩
  rw [e0]
  have hW := low_lt v t
  have e1 : v % 2 ^ t = (((v % 2 ^ t).toNat : Nat) : Int) := by
    have := Int.emod_nonneg v (show (2 : Int) ^ t ≠ 0 by omega)
    omega
  rw [e1]
  generalize (v % 2 ^ t).toNat = W at hW hk
  refine nz_i (h.blk.ldI (o := 2) rfl ?_)
  refine ⟨by omega, ?_⟩
  have hr : L - 8 * (L / 8) < 8 := by omega
  have hbig : W * 2 ^ (L - 8 * (L / 8)) < 2 ^ 32 := by
    have a1 : 2 ^ (L - 8 * (L / 8)) ≤ 2 ^ 7 := Nat.pow_le_pow_right (by decide) (by omega)
    have a2 : (2 : Nat) ^ t ≤ 2 ^ 24 := Nat.pow_le_pow_right (by decide) ht
    have := Nat.mul_le_mul (show W ≤ 2 ^ 24 by omega) a1
    omega
  refine lt_as (shlV_nat .u64 (show L - 8 * (L / 8) ≤ 64 by omega) (by omega) (by
    have : ((W * 2 ^ (L - 8 * (L / 8)) : Nat) : Int) = (W : Int) * 2 ^ (L - 8 * (L / 8)) := by simp
    rw [← this]
    exact_mod_cast Nat.lt_of_lt_of_le hbig (by decide))) ?_
  have hword := div_pow_lt hV hk8
  have hword2 : 2 ^ (L - 8 * (L / 8)) ≤ 2 ^ 7 := Nat.pow_le_pow_right (by decide) (by omega)
  refine lt_as (orV_add .u64 hword (show _ < (2 : Nat) ^ (64 - 1) by omega)) ?_
  have e2 : ((V / 2 ^ (8 * (L / 8)) : Nat) : Int) + (W : Int) * 2 ^ (L - 8 * (L / 8)) = (((V + 2 ^ L * W) / 2 ^ (8 * (L / 8)) : Nat) : Int) := by
    rw [div_above hk8]
    simp
  rw [e2]
  refine nz_i (h.st (o := 1) (by simp) trivial fun w h => ?_)
  refine nz_i (h.blk.ldI (o := 2) rfl ?_)
  refine lt_as (wrap_i64 (by omega) (by omega)) ?_
  refine nz_i (h.st (o := 2) (by simp) trivial fun w h => ?_)
  have e3 : ((L - 8 * (L / 8) : Nat) : Int) + (t : Int) = ((L + t - 8 * (L / 8) : Nat) : Int) := by omega
  rw [e3] at h
  rw [← byt_above V W (L / 8) L hk8] at h
  refine bits_Writer_Put.loop (k := L / 8) ((h.join.ifI (c := 8 * (L / 8) ≤ L + t ∧ V + 2 ^ L * W < 2 ^ (L + t)) ⟨by omega, put_lt hV hW⟩).exI (p := fun s : Sl => ifA (8 * (L / 8) ≤ L + t ∧ V + 2 ^ L * W < 2 ^ (L + t)) <| andA
    (blkA wb [.slice s.a s.len s.cap, .int .u64 (((V + 2 ^ L * W) / 2 ^ (8 * (L / 8)) : Nat) : Int), .int .i64 ((L + t - 8 * (L / 8) : Nat) : Int)]) (ownA 1 s (u8s (byt (V + 2 ^ L * W) (L / 8))))) s) (by omega) (by omega) hk

end

end Go.Proofs.Ythdmmmfgjmmelaa
