/- The document's reader of bits, and the statement on any bytes that are read: what its text answers. Own work. -/
import Derived.Test.YtkajimndclhgaaaBitD
import Derived.Test.YtkajimndclhgaaaGBitR
namespace Go.Proofs.Ytkajimndclhgaaa
open Go Go.Proofs
set_option linter.unusedVariables false
set_option linter.unusedSimpArgs false
attribute [local irreducible] apK cpK mkK

/-! ### slices that came in -/

theorem row_rd {k : IntKind} {w : World} {a : Option Addr} {len cap : Nat} {zs : List Int} (h : (a = none ∧ len = 0 ∧ cap = 0 ∧ zs = []) ∨
    ∃ x, a = some x ∧ len ≤ cap ∧ cap ≤ maxLen ∧ zs.length = cap ∧ (∀ i, i < zs.length → w.cell? (x.add i) = some (.int k (zs.getD i 0))) ∧ ∀ n ∈ zs, (Lit.int k n).wf = true) :
    ∃ xs : List Int, Rd w 1 ⟨a, len, cap⟩ (xs.map (Value.int k)) ∧ (∀ n ∈ xs, (Lit.int k n).wf = true) ∧ xs.length = len := by
  rcases h with ⟨rfl, rfl, rfl, rfl⟩ | ⟨x, rfl, h1, h2, h3, h4, h5⟩
  · exact ⟨[], ⟨rfl, fun i hi => by simp at hi⟩, by simp, rfl⟩
  · refine ⟨zs.take len, ⟨by simp; omega, fun i hi => ⟨x, rfl, ?_⟩⟩, fun n hn => h5 n (List.mem_of_mem_take hn), by simp; omega⟩
    simp only [List.length_map, List.length_take] at hi
    rw [h4 i (by omega)]
    rw [List.getElem?_map, List.getElem?_take, if_pos (by omega), List.getElem?_eq_getElem (show i < zs.length by omega)]
    simp [List.getD, List.getElem?_eq_getElem (show i < zs.length by omega)]

theorem wf_u8 {n : Int} (h : (Lit.int .u8 n).wf = true) : 0 ≤ n ∧ n < 256 := by
  have h : IntKind.u8.min ≤ n ∧ n ≤ IntKind.u8.max := by simpa [Lit.wf] using h
  have h1 : IntKind.u8.min = 0 := rfl
  have h2 : IntKind.u8.max = 255 := rfl
  omega

theorem wf_i64 {n : Int} (h : (Lit.int .i64 n).wf = true) : -9223372036854775808 ≤ n ∧ n < 9223372036854775808 := by
  have h : IntKind.i64.min ≤ n ∧ n ≤ IntKind.i64.max := by simpa [Lit.wf] using h
  have h1 : IntKind.i64.min = -9223372036854775808 := rfl
  have h2 : IntKind.i64.max = 9223372036854775807 := rfl
  omega

/-- bytes are the bytes of a number -/
theorem byt_ex : ∀ (xs : List Int), (∀ x ∈ xs, 0 ≤ x ∧ x < 256) → ∃ V, xs = byt V xs.length
  | [], _ => ⟨0, rfl⟩
  | x :: xs, h => by
    obtain ⟨V, hV⟩ := byt_ex xs (fun y hy => h y (by simp [hy]))
    refine ⟨x.toNat + 256 * V, ?_⟩
    have hx := h x (by simp)
    unfold byt at hV ⊢
    rw [List.length_cons, List.range_succ_eq_map, List.map_cons, List.map_map]
    congr 1
    · simp; omega
    · refine hV.trans ?_
      apply List.map_congr_left
      intro i _
      simp only [Function.comp]
      congr 1
      rw [show 8 * i.succ = 8 + 8 * i by omega, Nat.pow_add, ← Nat.div_div_eq_div_mul]
      congr 2
      have : (x.toNat + 256 * V) / 2 ^ 8 = V := by omega
      rw [this]

/-! ### the document's reader -/

section
variable {F0 : List Nat} {w0 w : World} {ps : List As}

/-- at rb stands the document's reader over the slice s, at of its bits taken -/
def rfA (rb : Nat) (s : Sl) (at' : Nat) : As := blkA rb [.slice s.a s.len s.cap, .int .i64 (at' : Int)]

theorem troveref2_Reader_Left.c {rb at' : Nat} {s : Sl} {K : Ending → World → Prop} (h : St F0 w0 w (rfA rb s at' :: ps)) (hN : s.len ≤ 137438953472) (ha : at' ≤ 8 * s.len + 8)
    (hk : ∀ w', St F0 w0 w' (rfA rb s at' :: ps) → K (.returned (.int .i64 (8 * (s.len : Int) - at'))) w') : Calls Try.prog 53 ⟨[.pointer (some ⟨rb, 0, none⟩)]⟩ w K := by
  refine ret_k (troveref2_Reader_Left.ok _ _ _ ?_)
  unfold troveref2_Reader_Left
  refine h.drewK fun w h => ?_
  refine nz_i (h.blk.ldL (o := 0) rfl ?_)
  refine lt_as (wrap_i64 (by omega) (by omega)) ?_
  refine nz_i (h.blk.ldI (o := 1) rfl ?_)
  refine lt_as (wrap_i64 (by omega) (by omega)) ?_
  exact hk w h

theorem troveref2_Reader_Past.c {rb at' : Nat} {s : Sl} {K : Ending → World → Prop} (h : St F0 w0 w (rfA rb s at' :: ps)) (ha : at' ≤ 1099511627784)
    (hk : K (.returned (.int .i64 ((at' + 7) / 8 : Nat))) w) : Calls Try.prog 55 ⟨[.pointer (some ⟨rb, 0, none⟩)]⟩ w K := by
  refine ret_k (troveref2_Reader_Past.ok _ _ _ ?_)
  unfold troveref2_Reader_Past
  refine nz_i (h.blk.ldI (o := 1) rfl ?_)
  refine lt_as (wrap_i64 (by omega) (by omega)) ?_
  refine ⟨by decide, ?_⟩
  rw [tdiv_nn (by omega)]
  refine lt_as (wrap_i64 (by omega) (by omega)) ?_
  have e : ((at' : Int) + 7) / 8 = ((at' + 7) / 8 : Nat) := by omega
  rw [e]
  exact hk

theorem troveref2_Reader_Align.c {rb at' : Nat} {s : Sl} {K : Ending → World → Prop} (h : St F0 w0 w (rfA rb s at' :: ps)) (ha : at' ≤ 1099511627784)
    (hk : ∀ w', St F0 w0 w' (rfA rb s (8 * ((at' + 7) / 8)) :: ps) → K (.returned (.tuple ⟨[]⟩)) w') : Calls Try.prog 51 ⟨[.pointer (some ⟨rb, 0, none⟩)]⟩ w K := by
  refine ret_k (troveref2_Reader_Align.ok _ _ _ ?_)
  unfold troveref2_Reader_Align
  refine nz_i (h.blk.ldI (o := 1) rfl ?_)
  refine lt_as (wrap_i64 (by omega) (by omega)) ?_
  refine ⟨by decide, ?_⟩
  rw [tdiv_nn (by omega)]
  refine lt_as (wrap_i64 (by omega) (by omega)) ?_
  refine lt_as (wrap_i64 (by omega) (by omega)) ?_
  refine nz_i (h.st (o := 1) (by simp) trivial fun w h => ?_)
  have e : ((at' : Int) + 7) / 8 * 8 = (8 * ((at' + 7) / 8) : Nat) := by omega
  rw [e] at h
  exact hk w h

theorem troveref2_Reader_Get.loop {rb V N at' n : Nat} {s : Sl} {Q : Value → World → Prop} (h : St F0 w0 w (rfA rb s at' :: ps)) (hr : ∀ w', St F0 w0 w' (rfA rb s at' :: ps) → Rd w' 1 s (u8s (byt V N))) (hN : N ≤ 137438953472) (hn : n ≤ 24) (ha : at' + n ≤ 8 * N)
    (hq : ∀ w', St F0 w0 w' (rfA rb s (at' + n) :: ps) → Q (.tuple ⟨[.int .i64 (V / 2 ^ at' % 2 ^ n : Nat), .bool true]⟩) w') : troveref2_Reader_Get.l1 (some ⟨rb, 0, none⟩) n 0 0 Q w := by
  refine loop2 (fun (i : Nat) (v i' : Int) w => i' = i ∧ i ≤ n ∧ v = (V / 2 ^ at' % 2 ^ i : Nat) ∧ St F0 w0 w (rfA rb s at' :: ps)) (fun i => n - i) 0 ⟨rfl, by omega, by simp [Nat.mod_one], h⟩ ?_
  clear h
  rintro i v i' w I μ ⟨rfl, hi, rfl, h⟩ hin
  have hr := hr w h
  have hs := hr.1
  rw [u8s_length, byt_length] at hs
  unfold troveref2_Reader_Get.b1
  refine br_d (fun h1 => ?_) (fun h1 => ?_)
  · refine nz_i (h.blk.ldI (o := 1) rfl ?_)
    refine lt_as (wrap_i64 (by omega) (by omega)) ?_
    refine nz_i (h.blk.ldL (o := 0) rfl ?_)
    refine ⟨by decide, ?_⟩
    rw [tdiv_nn (by omega)]
    refine lt_as (wrap_i64 (by omega) (by omega)) ?_
    have hlt : (at' + i) / 8 < N := by omega
    refine hr.ix (by decide) (by omega) (by omega) fun a ha => ?_
    have ei : (((at' : Int) + i) / 8).toNat * 1 = (at' + i) / 8 := by omega
    rw [ei]
    refine hr.ldI ha (byt_get hlt) ?_
    have hbyte : V / 2 ^ (8 * ((at' + i) / 8)) % 256 < 256 := Nat.mod_lt _ (by decide)
    refine ⟨by decide, ?_⟩
    refine lt_as (tmod_nn (by omega)) ?_
    have em : ((at' : Int) + i) % 8 = ((at' + i) % 8 : Nat) := by omega
    rw [em]
    refine lt_as (show IntKind.u64.wrap (((at' + i) % 8 : Nat) : Int) = ((at' + i) % 8 : Nat) by rw [wrap_u64]; omega) ?_
    refine ⟨by omega, ?_⟩
    refine lt_as (shrV_nat .u8 _ (t := (at' + i) % 8) (by show _ ≤ 8; omega)) ?_
    refine lt_as (andV_one .u8 _) ?_
    have eb : ((V / 2 ^ (8 * ((at' + i) / 8)) % 256 : Nat) : Int) / 2 ^ ((at' + i) % 8) % 2 = ((V / 2 ^ (at' + i) % 2 : Nat) : Int) := by
      have := get_bits V (at' + i) 1 (by omega)
      rw [Nat.pow_one] at this
      rw [← this]
      simp
    rw [eb]
    have hx : V / 2 ^ (at' + i) % 2 < 2 := Nat.mod_lt _ (by decide)
    refine lt_as (wrap_i64 (by omega) (by omega)) ?_
    refine lt_as (show IntKind.u64.wrap (i : Int) = i by rw [wrap_u64]; omega) ?_
    refine ⟨by omega, ?_⟩
    have hy : V / 2 ^ at' % 2 ^ i < 2 ^ i := Nat.mod_lt _ (Nat.pow_pos (by decide))
    have hpi : (2 : Nat) ^ i ≤ 2 ^ 24 := Nat.pow_le_pow_right (by decide) (by omega)
    have hm : V / 2 ^ (at' + i) % 2 * 2 ^ i ≤ 2 * 2 ^ 24 := Nat.mul_le_mul (by omega) hpi
    have ex : ((V / 2 ^ (at' + i) % 2 * 2 ^ i : Nat) : Int) = ((V / 2 ^ (at' + i) % 2 : Nat) : Int) * 2 ^ i := by simp
    refine lt_as (shlV_nat .i64 (show i ≤ 64 by omega) (by omega) (by rw [← ex]; show _ < 2 ^ 63; omega)) ?_
    refine lt_as (orV_add .i64 hy (by show _ < 2 ^ 63; omega)) ?_
    have es : ((V / 2 ^ at' % 2 ^ i : Nat) : Int) + ((V / 2 ^ (at' + i) % 2 : Nat) : Int) * 2 ^ i = ((V / 2 ^ at' % 2 ^ (i + 1) : Nat) : Int) := by
      have := get_step V at' i 1
      rw [Nat.pow_one] at this
      rw [← ex, ← Int.natCast_add, this]
    refine lt_as (wrap_i64 (by omega) (by omega)) ?_
    exact ⟨⟨rfl, rfl⟩, hin (i + 1) _ _ _ ⟨by simp, by omega, es, h⟩ (by omega)⟩
  · have : i = n := by omega
    subst this
    unfold troveref2_Reader_Get.j3
    refine nz_i (h.blk.ldI (o := 1) rfl ?_)
    refine lt_as (wrap_i64 (by omega) (by omega)) ?_
    refine nz_i (h.st (o := 1) (by simp) trivial fun w h => ?_)
    have e : (at' : Int) + i = ((at' + i : Nat) : Int) := by omega
    rw [e] at h
    exact hq w h

theorem troveref2_Reader_Get.c {rb V N at' : Nat} {s : Sl} {n : Int} {K : Ending → World → Prop} (h : St F0 w0 w (rfA rb s at' :: ps)) (hr : ∀ w', St F0 w0 w' (rfA rb s at' :: ps) → Rd w' 1 s (u8s (byt V N))) (hN : N ≤ 137438953472) (ha : at' ≤ 8 * N)
    (hk : getOk N at' n = true → ∀ w', St F0 w0 w' (rfA rb s (at' + n.toNat) :: ps) → K (.returned (.tuple ⟨[.int .i64 (V / 2 ^ at' % 2 ^ n.toNat : Nat), .bool true]⟩)) w')
    (hk' : getOk N at' n = false → ∀ w', St F0 w0 w' (rfA rb s at' :: ps) → K (.returned (.tuple ⟨[.int .i64 0, .bool false]⟩)) w') :
    Calls Try.prog 52 ⟨[.pointer (some ⟨rb, 0, none⟩), .int .i64 n]⟩ w K := by
  have hs := (hr w h).1
  rw [u8s_length, byt_length] at hs
  refine ret_k (troveref2_Reader_Get.ok _ _ _ _ ?_)
  unfold troveref2_Reader_Get troveref2_Reader_Get.j1
  refine br_d (fun h1 => ?_) (fun h1 => ?_)
  · exact hk' (by simp [getOk]; omega) w h
  refine br_d (fun h2 => ?_) (fun h2 => ?_)
  · exact hk' (by simp [getOk]; omega) w h
  refine troveref2_Reader_Left.c h (by omega) (by omega) fun w h => ⟨_, rfl, ?_⟩
  refine br_d (fun h3 => ?_) (fun h3 => ?_)
  · exact hk' (by simp [getOk]; omega) w h
  obtain ⟨t, rfl⟩ : ∃ t : Nat, n = t := ⟨n.toNat, by omega⟩
  exact troveref2_Reader_Get.loop h hr hN (by omega) (by omega) (hk (by simp [getOk]; omega))

end

/-! ### the statement -/

theorem trovelaw2_BitsReads.law (s0 s1 : Sl) (xs ys : List Int) (w : World) (hr0 : Rd w 1 s0 (u8s xs)) (hr1 : Rd w 1 s1 (ys.map (Value.int .i64))) (hx : ∀ n ∈ xs, (Lit.int .u8 n).wf = true) (hy : ∀ n ∈ ys, (Lit.int .i64 n).wf = true) :
    Calls Try.prog 5 ⟨[.slice s0.a s0.len s0.cap, .slice s1.a s1.len s1.cap]⟩ w fun e w' => e = .returned (.bool true) ∧ Mod [] w w' := by
  refine ret_k (trovelaw2_BitsReads.ok _ _ _ _ ?_)
  unfold trovelaw2_BitsReads trovelaw2_BitsReads.j1
  refine trovelaw2_known.c (St.start0 (w := w)) fun w1 h => ⟨_, rfl, ?_⟩
  have done : ∀ {w' ps}, St [] w w' ps → (Ending.returned (.bool true) = Ending.returned (.bool true) ∧ Mod [] w w') := fun h => ⟨rfl, h.mod⟩
  refine br_b (fun h1 => by cases h1) fun _ => ?_
  refine br_d (fun _ => done h) fun g1 => ?_
  refine br_d (fun _ => done h) fun g2 => ?_
  unfold trovelaw2_BitsReads.j2
  obtain ⟨V, hV⟩ := byt_ex xs (fun n hn => wf_u8 (hx n hn))
  have hl0 := hr0.1
  rw [u8s_length] at hl0
  have hl1 := hr1.1
  rw [List.length_map] at hl1
  generalize hN : xs.length = N at hV hl0
  subst hV
  have rd0 : ∀ {w' ps}, St [] w w' ps → Rd w' 1 s0 (u8s (byt V N)) := fun h => hr0.keep h.mod (by simp)
  have rd1 : ∀ {w' ps}, St [] w w' ps → Rd w' 1 s1 (ys.map (Value.int .i64)) := fun h => hr1.keep h.mod (by simp)
  refine bits_NewReader.c h (rd0 h) (by omega) fun ra w2 h => ⟨_, rfl, ?_⟩
  refine h.new fun rb w3 h => ?_
  unfold trovelaw2_BitsReads.j3 trovelaw2_BitsReads.j5
  have h : St [] w w3 (rrA ra V N 0 :: rfA rb s0 0 :: []) := h.at1
  refine loop1 (fun (a : Nat × Nat) (i' : Int) w' => i' = a.1 ∧ a.1 ≤ s1.len ∧ a.2 ≤ 8 * N ∧ St [] w w' (rrA ra V N a.2 :: rfA rb s0 a.2 :: [])) (fun a => s1.len - a.1) (0, 0) ⟨rfl, by omega, by omega, h⟩ ?_
  clear h
  rintro ⟨i, at'⟩ i' w4 I μ ⟨rfl, hi, hat, h⟩ hin
  simp only at hi hat h hin ⊢
  unfold trovelaw2_BitsReads.b1
  refine br_d (fun h1 => ?_) (fun _ => done h)
  have next : ∀ (at'' : Nat) (w5 : World), at'' ≤ 8 * N → St [] w w5 (rrA ra V N at'' :: rfA rb s0 at'' :: []) → trovelaw2_BitsReads.j8 s1 (some ⟨ra, 0, none⟩) (some ⟨rb, 0, none⟩) i (fun v w' => Ending.returned v = Ending.returned (.bool true) ∧ Mod [] w w')
      (fun i_1' t5' t6' t7' w' => (i_1' = s1 ∧ t5' = some ⟨ra, 0, none⟩ ∧ t6' = some ⟨rb, 0, none⟩) ∧ I t7' w' ∧ μ t7' w' < μ (i : Int) w4) w5 := by
    intro at'' w5 hat h
    unfold trovelaw2_BitsReads.j8
    refine bits_Reader_Left.c h (by omega) (by omega) fun w h => ⟨_, rfl, ?_⟩
    refine troveref2_Reader_Left.c h.at1 (by omega) (by omega) fun w h => ⟨_, rfl, ?_⟩
    refine br_b (fun h1 => by simp at h1; omega) fun _ => ?_
    refine bits_Reader_Past.c h.at1 (by omega) fun h => ⟨_, rfl, ?_⟩
    refine troveref2_Reader_Past.c h.at1 (by omega) ⟨_, rfl, ?_⟩
    refine br_b (fun h1 => by simp at h1) fun _ => ?_
    unfold trovelaw2_BitsReads.j7
    refine lt_as (wrap_i64 (by omega) (by omega)) ?_
    exact ⟨⟨rfl, rfl, rfl⟩, hin (i + 1, at'') _ _ ⟨by simp, by simp only; omega, hat, h⟩ (by simp only; omega)⟩
  unfold trovelaw2_BitsReads.j6
  have hiy : i < ys.length := by omega
  have hy1 : (ys.map (Value.int .i64))[i]? = some (.int .i64 ys[i]) := by simp [hiy]
  have ei : ((i : Int)).toNat * 1 = i := by omega
  refine (rd1 h).ix (by decide) (by omega) (by omega) fun a ha => ?_
  rw [ei]
  refine (rd1 h).ldI ha hy1 ?_
  refine br_b (fun g => ?_) (fun g => ?_)
  · refine bits_Reader_Align.c h (by omega) fun w h => ⟨rfl, ?_⟩
    refine troveref2_Reader_Align.c h.at1 (by omega) fun w h => ⟨rfl, ?_⟩
    exact next _ _ (by omega) h.at1
  · refine (rd1 h).ix (by decide) (by omega) (by omega) fun a ha => ?_
    rw [ei]
    refine (rd1 h).ldI ha hy1 ?_
    refine bits_Reader_Get.c h (by omega) (by omega) (fun gk w h => ⟨_, _, rfl, ?_⟩) (fun gk w h => ⟨_, _, rfl, ?_⟩)
    all_goals
      refine (rd1 h).ix (by decide) (by omega) (by omega) fun a ha => ?_
      rw [ei]
      refine (rd1 h).ldI ha hy1 ?_
      refine troveref2_Reader_Get.c h.at1 (fun w h => rd0 h) (by omega) (by omega) (fun gk' w h => ⟨_, _, rfl, ?_⟩) (fun gk' w h => ⟨_, _, rfl, ?_⟩)
    · refine br_b (fun h1 => by simp at h1) fun _ => ?_
      refine br_b (fun h1 => by cases h1) fun _ => ?_
      refine next _ _ ?_ h.at1
      simp [getOk] at gk
      omega
    · rw [gk] at gk'; cases gk'
    · rw [gk] at gk'; cases gk'
    · refine br_b (fun h1 => by simp at h1) fun _ => ?_
      refine br_b (fun h1 => by cases h1) fun _ => ?_
      exact next _ _ hat h.at1

end Go.Proofs.Ytkajimndclhgaaa
