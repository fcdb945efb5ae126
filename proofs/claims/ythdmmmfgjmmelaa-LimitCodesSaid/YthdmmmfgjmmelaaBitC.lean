/- The reader of bits: its methods. Own work. -/
import Derived.Test.YthdmmmfgjmmelaaBitB
namespace Go.Proofs.Ythdmmmfgjmmelaa
open Go Go.Proofs
set_option linter.unusedVariables false
set_option linter.unusedSimpArgs false
attribute [local irreducible] apK cpK mkK

/-- at rb stands a reader of the n lowest bytes of V; at of its bits are taken -/
def rrA (rb V N at' : Nat) : As := exA fun s : Sl => andA (blkA rb [.slice s.a s.len s.cap, .int .i64 (at' : Int)]) (ownA 1 s (u8s (byt V N)))

def getOk (N at' : Nat) (n : Int) : Bool := decide (0 ≤ n ∧ n ≤ 24 ∧ n ≤ 8 * (N : Int) - at')

theorem byt_get {V N i : Nat} (h : i < N) : (u8s (byt V N))[i]? = some (.int .u8 ((V / 2 ^ (8 * i) % 256 : Nat) : Int)) := by
  simp [u8s, byt, h]

theorem get_bits (V at' k : Nat) (h : at' % 8 + k ≤ 8) : V / 2 ^ (8 * (at' / 8)) % 256 / 2 ^ (at' % 8) % 2 ^ k = V / 2 ^ at' % 2 ^ k := by
  have e : V / 2 ^ at' = V / 2 ^ (8 * (at' / 8)) / 2 ^ (at' % 8) := by
    rw [Nat.div_div_eq_div_mul, ← Nat.pow_add]
    congr 2
    omega
  rw [e]
  generalize V / 2 ^ (8 * (at' / 8)) = X
  generalize at' % 8 = r at h
  have e2 : (256 : Nat) = 2 ^ r * (2 ^ k * 2 ^ (8 - r - k)) := by
    rw [← Nat.pow_add, ← Nat.pow_add, show r + (k + (8 - r - k)) = 8 by omega]
  rw [e2, Nat.mod_mul_right_div_self, Nat.mod_mul_right_mod]

theorem get_step (V a i k : Nat) : V / 2 ^ a % 2 ^ i + V / 2 ^ (a + i) % 2 ^ k * 2 ^ i = V / 2 ^ a % 2 ^ (i + k) := by
  rw [Nat.pow_add 2 i k, Nat.mod_mul, Nat.div_div_eq_div_mul, ← Nat.pow_add, Nat.mul_comm]

section
variable {F0 : List Nat} {w0 w : World} {ps : List As}

theorem rrA_o {rb V N at' : Nat} (h : St F0 w0 w (rrA rb V N at' :: ps)) : ∃ s : Sl, s.len = N ∧ St F0 w0 w (blkA rb [.slice s.a s.len s.cap, .int .i64 (at' : Int)] :: ownA 1 s (u8s (byt V N)) :: ps) := by
  obtain ⟨s, h⟩ := h.exE
  have h := h.split
  have hl := h.at1.len
  rw [u8s_length, byt_length] at hl
  exact ⟨s, by omega, h⟩

theorem rrA_i {rb V N at' : Nat} {s : Sl} (h : St F0 w0 w (blkA rb [.slice s.a s.len s.cap, .int .i64 (at' : Int)] :: ownA 1 s (u8s (byt V N)) :: ps)) : St F0 w0 w (rrA rb V N at' :: ps) :=
  h.join.exI (p := fun s : Sl => andA (blkA rb [.slice s.a s.len s.cap, .int .i64 (at' : Int)]) (ownA 1 s (u8s (byt V N)))) s

theorem bits_NewReader.c {V N : Nat} {s : Sl} {K : Ending → World → Prop} (h : St F0 w0 w ps) (hr : Rd w 1 s (u8s (byt V N))) (hN : N ≤ 137438953472)
    (hk : ∀ rb w', St F0 w0 w' (rrA rb V N 0 :: ps) → K (.returned (.pointer (some ⟨rb, 0, none⟩))) w') : Calls Try.prog 21 ⟨[.slice s.a s.len s.cap]⟩ w K := by
  refine ret_k (bits_NewReader.ok _ _ _ ?_)
  unfold bits_NewReader
  refine slices_Clone_byte.c h hr (by rw [byt_length]; omega) fun s' w h => ⟨s', rfl, ?_⟩
  refine h.new fun nb w h => ?_
  exact hk nb w (rrA_i h)

theorem bits_Reader_Left.c {rb V N at' : Nat} {K : Ending → World → Prop} (h : St F0 w0 w (rrA rb V N at' :: ps)) (hN : N ≤ 137438953472) (ha : at' ≤ 8 * N + 8)
    (hk : ∀ w', St F0 w0 w' (rrA rb V N at' :: ps) → K (.returned (.int .i64 (8 * (N : Int) - at'))) w') : Calls Try.prog 93 ⟨[.pointer (some ⟨rb, 0, none⟩)]⟩ w K := by
  refine ret_k (bits_Reader_Left.ok _ _ _ ?_)
  unfold bits_Reader_Left
  refine h.drewK fun w h => ?_
  obtain ⟨s, hs, h⟩ := rrA_o h
  refine nz_i (h.blk.ldL (o := 0) rfl ?_)
  refine lt_as (wrap_i64 (by omega) (by omega)) ?_
  refine nz_i (h.blk.ldI (o := 1) rfl ?_)
  refine lt_as (wrap_i64 (by omega) (by omega)) ?_
  rw [hs]
  rw [hs] at h
  exact hk w (rrA_i (by rw [hs]; exact h))

theorem bits_Reader_Past.c {rb V N at' : Nat} {K : Ending → World → Prop} (h : St F0 w0 w (rrA rb V N at' :: ps)) (ha : at' ≤ 1099511627784)
    (hk : St F0 w0 w (rrA rb V N at' :: ps) → K (.returned (.int .i64 ((at' + 7) / 8 : Nat))) w) : Calls Try.prog 157 ⟨[.pointer (some ⟨rb, 0, none⟩)]⟩ w K := by
  refine ret_k (bits_Reader_Past.ok _ _ _ ?_)
  unfold bits_Reader_Past
  obtain ⟨s, hs, h⟩ := rrA_o h
  refine nz_i (h.blk.ldI (o := 1) rfl ?_)
  refine lt_as (wrap_i64 (by omega) (by omega)) ?_
  refine ⟨by decide, ?_⟩
  rw [tdiv_nn (by omega)]
  refine lt_as (wrap_i64 (by omega) (by omega)) ?_
  have e : ((at' : Int) + 7) / 8 = ((at' + 7) / 8 : Nat) := by omega
  rw [e]
  exact hk (rrA_i h)

theorem bits_Reader_Align.c {rb V N at' : Nat} {K : Ending → World → Prop} (h : St F0 w0 w (rrA rb V N at' :: ps)) (ha : at' ≤ 1099511627784)
    (hk : ∀ w', St F0 w0 w' (rrA rb V N (8 * ((at' + 7) / 8)) :: ps) → K (.returned (.tuple ⟨[]⟩)) w') : Calls Try.prog 181 ⟨[.pointer (some ⟨rb, 0, none⟩)]⟩ w K := by
  refine ret_k (bits_Reader_Align.ok _ _ _ ?_)
  unfold bits_Reader_Align
  refine bits_Reader_Past.c h ha fun h => ⟨_, rfl, ?_⟩
  refine lt_as (wrap_i64 (by omega) (by omega)) ?_
  obtain ⟨s, hs, h⟩ := rrA_o h
  refine nz_i (h.st (o := 1) (by simp) trivial fun w h => ?_)
  have e : (8 : Int) * ((at' + 7) / 8 : Nat) = (8 * ((at' + 7) / 8) : Nat) := by omega
  rw [e] at h
  exact hk w (rrA_i h)

theorem bits_Reader_Get.loop {rb V N at' n : Nat} {Q : Value → World → Prop} (h : St F0 w0 w (rrA rb V N at' :: ps)) (hN : N ≤ 137438953472) (hn : n ≤ 24) (ha : at' + n ≤ 8 * N)
    (hq : ∀ w', St F0 w0 w' (rrA rb V N (at' + n) :: ps) → Q (.tuple ⟨[.int .i64 (V / 2 ^ at' % 2 ^ n : Nat), .bool true]⟩) w') : bits_Reader_Get.l1 (some ⟨rb, 0, none⟩) n 0 0 Q w := by
  refine loop2 (fun (i : Nat) (v i' : Int) w => i' = i ∧ i ≤ n ∧ v = (V / 2 ^ at' % 2 ^ i : Nat) ∧ St F0 w0 w (rrA rb V N (at' + i) :: ps)) (fun i => n - i) 0 ⟨rfl, by omega, by simp [Nat.mod_one], h⟩ ?_
  clear h
  rintro i v i' w I μ ⟨rfl, hi, rfl, h⟩ hin
  unfold bits_Reader_Get.b1
  refine br_d (fun h1 => ?_) (fun h1 => ?_)
  · obtain ⟨s, hs, h⟩ := rrA_o h
    refine nz_i (h.blk.ldI (o := 1) rfl ?_)
    refine ⟨by decide, ?_⟩
    refine lt_as (tmod_nn (by omega)) ?_
    refine lt_as (wrap_i64 (by omega) (by omega)) ?_
    refine lt_as (wrap_i64 (by omega) (by omega)) ?_
    obtain ⟨k, hk, hk8, hkn, hk0⟩ : ∃ k : Nat, (if (n : Int) - i < 8 - ((at' + i : Nat) : Int) % 8 then (n : Int) - i else 8 - ((at' + i : Nat) : Int) % 8) = (k : Int) ∧ (at' + i) % 8 + k ≤ 8 ∧ i + k ≤ n ∧ 0 < k := by
      split
      · exact ⟨n - i, by omega, by omega, by omega, by omega⟩
      · exact ⟨8 - (at' + i) % 8, by omega, by omega, by omega, by omega⟩
    refine lt_as hk ?_
    refine h.drewK fun w h => ?_
    refine nz_i (h.blk.ldL (o := 0) rfl ?_)
    refine nz_i (h.blk.ldI (o := 1) rfl ?_)
    refine ⟨by decide, ?_⟩
    rw [tdiv_nn (by omega)]
    refine lt_as (wrap_i64 (by omega) (by omega)) ?_
    have hr := h.at1.ord
    have hlt : (at' + i) / 8 < N := by omega
    refine hr.ix (by decide) (by omega) (by omega) fun a ha => ?_
    have ei : (((at' + i : Nat) : Int) / 8).toNat * 1 = (at' + i) / 8 := by omega
    rw [ei]
    refine hr.ldI ha (byt_get hlt) ?_
    have hbyte : V / 2 ^ (8 * ((at' + i) / 8)) % 256 < 256 := Nat.mod_lt _ (by decide)
    refine lt_as (wrap_i64 (by omega) (by omega)) ?_
    refine nz_i (h.blk.ldI (o := 1) rfl ?_)
    refine ⟨by decide, ?_⟩
    refine lt_as (tmod_nn (by omega)) ?_
    refine ⟨by omega, ?_⟩
    have em : ((at' + i : Nat) : Int) % 8 = ((at' + i) % 8 : Nat) := by omega
    rw [em]
    refine lt_as (shrV_nat .i64 _ (t := (at' + i) % 8) (by show _ ≤ 64; omega)) ?_
    refine ⟨by omega, ?_⟩
    have hk24 : k ≤ 24 := by omega
    have hpk : (2 : Nat) ^ k ≤ 2 ^ 24 := Nat.pow_le_pow_right (by decide) hk24
    have ep : ((2 ^ k : Nat) : Int) = 2 ^ k := by simp
    have hp0 : (0 : Int) < 2 ^ k := Int.pow_pos (by decide)
    refine lt_as (shlV_nat .i64 (show k ≤ 64 by omega) (by omega) (by show (1 : Int) * 2 ^ k < 2 ^ 63; omega)) ?_
    rw [Int.one_mul]
    refine lt_as (wrap_i64 (by omega) (by omega)) ?_
    refine lt_as (andV_mod .i64 _ (show k < 64 by omega)) ?_
    have eb : ((V / 2 ^ (8 * ((at' + i) / 8)) % 256 : Nat) : Int) / 2 ^ ((at' + i) % 8) % 2 ^ k = ((V / 2 ^ (at' + i) % 2 ^ k : Nat) : Int) := by
      rw [← get_bits V (at' + i) k hk8]
      simp
    rw [eb]
    refine ⟨by omega, ?_⟩
    have hx : V / 2 ^ (at' + i) % 2 ^ k < 2 ^ k := Nat.mod_lt _ (Nat.pow_pos (by decide))
    have hy : V / 2 ^ at' % 2 ^ i < 2 ^ i := Nat.mod_lt _ (Nat.pow_pos (by decide))
    have hpi : (2 : Nat) ^ i ≤ 2 ^ 24 := Nat.pow_le_pow_right (by decide) (by omega)
    have hm : V / 2 ^ (at' + i) % 2 ^ k * 2 ^ i ≤ 2 ^ 24 * 2 ^ 24 := Nat.mul_le_mul (by omega) hpi
    have ex : ((V / 2 ^ (at' + i) % 2 ^ k * 2 ^ i : Nat) : Int) = ((V / 2 ^ (at' + i) % 2 ^ k : Nat) : Int) * 2 ^ i := by simp
    refine lt_as (shlV_nat .i64 (show i ≤ 64 by omega) (by omega) (by rw [← ex]; show _ < 2 ^ 63; omega)) ?_
    refine lt_as (orV_add .i64 hy (by show _ < 2 ^ 63; omega)) ?_
    have es : ((V / 2 ^ at' % 2 ^ i : Nat) : Int) + ((V / 2 ^ (at' + i) % 2 ^ k : Nat) : Int) * 2 ^ i = ((V / 2 ^ at' % 2 ^ (i + k) : Nat) : Int) := by
      rw [← ex, ← Int.natCast_add, get_step]
    refine lt_as (wrap_i64 (by omega) (by omega)) ?_
    refine nz_i (h.blk.ldI (o := 1) rfl ?_)
    refine lt_as (wrap_i64 (by omega) (by omega)) ?_
    refine nz_i (h.st (o := 1) (by simp) trivial fun w h => ?_)
    refine ⟨⟨rfl, rfl⟩, hin (i + k) _ _ _ ⟨by simp, hkn, es, ?_⟩ (by omega)⟩
    have e : ((at' + i : Nat) : Int) + k = ((at' + (i + k) : Nat) : Int) := by omega
    rw [e] at h
    exact rrA_i h
  · have : i = n := by omega
    subst this
    exact hq w h

theorem bits_Reader_Get.c {rb V N at' : Nat} {n : Int} {K : Ending → World → Prop} (h : St F0 w0 w (rrA rb V N at' :: ps)) (hN : N ≤ 137438953472) (ha : at' ≤ 8 * N + 8)
    (hk : getOk N at' n = true → ∀ w', St F0 w0 w' (rrA rb V N (at' + n.toNat) :: ps) → K (.returned (.tuple ⟨[.int .i64 (V / 2 ^ at' % 2 ^ n.toNat : Nat), .bool true]⟩)) w')
    (hk' : getOk N at' n = false → ∀ w', St F0 w0 w' (rrA rb V N at' :: ps) → K (.returned (.tuple ⟨[.int .i64 0, .bool false]⟩)) w') :
    Calls Try.prog 52 ⟨[.pointer (some ⟨rb, 0, none⟩), .int .i64 n]⟩ w K := by
  refine ret_k (bits_Reader_Get.ok _ _ _ _ ?_)
  unfold bits_Reader_Get bits_Reader_Get.j1
  refine br_d (fun h1 => ?_) (fun h1 => ?_)
  · exact hk' (by simp [getOk]; omega) w h
  refine br_d (fun h2 => ?_) (fun h2 => ?_)
  · exact hk' (by simp [getOk]; omega) w h
  refine bits_Reader_Left.c h hN ha fun w h => ⟨_, rfl, ?_⟩
  refine br_d (fun h3 => ?_) (fun h3 => ?_)
  · exact hk' (by simp [getOk]; omega) w h
  obtain ⟨t, rfl⟩ : ∃ t : Nat, n = t := ⟨n.toNat, by omega⟩
  exact bits_Reader_Get.loop h hN (by omega) (by omega) (hk (by simp [getOk]; omega))

end

end Go.Proofs.Ythdmmmfgjmmelaa
