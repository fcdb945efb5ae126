/- Numbers as bytes: the readers, the program's and the document's. Own work. -/
import Derived.Test.YtkajimndclhgaaaPush
import Derived.Test.YtkajimndclhgaaaShaE
import Derived.Test.YtkajimndclhgaaaGBin
import Derived.Test.YtkajimndclhgaaaGBinR
namespace Go.Proofs.Ytkajimndclhgaaa
open Go Go.Proofs
set_option linter.unusedVariables false
set_option linter.unusedSimpArgs false
attribute [local irreducible] apK cpK mkK

/-! ### 1. arithmetic -/

theorem wrap_congr (k : IntKind) {x y : Int} (h : x % 2 ^ k.bits = y % 2 ^ k.bits) : k.wrap x = k.wrap y := by simp only [IntKind.wrap, h]
theorem wrap_mod (k : IntKind) (x : Int) : k.wrap x % 2 ^ k.bits = x % 2 ^ k.bits := by
  simp only [IntKind.wrap]
  split
  · rw [Int.sub_emod_right, Int.emod_emod]
  · rw [Int.emod_emod]

/-- a byte behind -/
theorem or_byte64 {k : IntKind} (hb : k.bits = 64) {v c : Int} (hc : 0 ≤ c ∧ c < 256) : orV k (shlV k v 8) c = k.wrap (v * 256 + c) := by
  obtain ⟨n, rfl⟩ : ∃ n : Nat, c = n := ⟨c.toNat, by omega⟩
  unfold orV shlV
  have h8 : min (8 : Int).toNat k.bits = 8 := by rw [hb]; rfl
  rw [h8]
  have e1 := ofInt_toNat k.bits (k.wrap (v * 2 ^ 8))
  rw [wrap_mod] at e1
  have e2 : (BitVec.ofInt k.bits (n : Int)).toNat = n := ofInt_toNat' _ _ (by rw [hb]; omega)
  rw [BitVec.toNat_or, e2]
  generalize (BitVec.ofInt k.bits (k.wrap (v * 2 ^ 8))).toNat = A at e1
  have h28 : (2 : Int) ^ 8 = 256 := by decide
  have h64 : (2 : Int) ^ k.bits = 18446744073709551616 := by rw [hb]; decide
  rw [h28, h64] at e1
  obtain ⟨q, rfl⟩ : ∃ q, A = 2 ^ 8 * q := ⟨A / 256, by omega⟩
  have := Nat.two_pow_add_eq_or_of_lt (i := 8) (b := n) (by omega) q
  rw [← this]
  apply wrap_congr
  rw [h64]
  have h28n : (2 : Nat) ^ 8 = 256 := by decide
  rw [h28n] at e1 ⊢
  omega

theorem be_fold (k : IntKind) (hb : k.bits = 64) (a : Int) (l : List Int) (c : Int) (hc : 0 ≤ c ∧ c < 256) : orV k (shlV k (k.wrap (be l)) 8) c = k.wrap (be (l ++ [c])) := by
  rw [or_byte64 hb hc, be_snoc]
  apply wrap_congr
  have h64 : (2 : Int) ^ k.bits = 18446744073709551616 := by rw [hb]; decide
  have := wrap_mod k (be l)
  rw [h64] at this ⊢
  omega

theorem be_beJ (n : Nat) (v : Int) : ∀ j, j ≤ n → be (beJ n j v) = v / 2 ^ (8 * (n - j)) % 2 ^ (8 * j) := by
  intro j
  induction j with
  | zero => intro _; simp [beJ, be, Int.emod_one]
  | succ j ih =>
    intro hj
    rw [beJ_succ, be_snoc, ih (by omega), show n - 1 - j = n - (j + 1) by omega]
    have e1 : v / 2 ^ (8 * (n - j)) = v / 2 ^ (8 * (n - (j + 1))) / 256 := by
      rw [show 8 * (n - j) = 8 * (n - (j + 1)) + 8 by omega, Int.pow_add, show (2 : Int) ^ 8 = 256 by decide, Int.ediv_ediv_of_nonneg (Int.le_of_lt (Int.pow_pos (by decide)))]
    have e2 : (2 : Int) ^ (8 * (j + 1)) = 256 * 2 ^ (8 * j) := by rw [show 8 * (j + 1) = 8 + 8 * j by omega, Int.pow_add]; rfl
    rw [e1, e2]
    generalize v / 2 ^ (8 * (n - (j + 1))) = x
    have hp : (0 : Int) < 2 ^ (8 * j) := Int.pow_pos (by decide)
    generalize (2 : Int) ^ (8 * j) = m at hp
    have h1 := Int.mul_ediv_add_emod (x / 256) m
    have h2 := Int.mul_ediv_add_emod x 256
    have h3 := Int.emod_lt_of_pos (x / 256) hp
    have h4 := Int.emod_nonneg (x / 256) (show m ≠ 0 by omega)
    have h5 : x = (x / 256 % m * 256 + x % 256) + (x / 256 / m) * (256 * m) := by
      have e : (x / 256 / m) * (256 * m) = 256 * (m * (x / 256 / m)) := by rw [← Int.mul_assoc, Int.mul_comm (x / 256 / m) 256, Int.mul_assoc, Int.mul_comm (x / 256 / m) m]
      rw [e]; omega
    have h6 := Int.add_mul_emod_self_right (x / 256 % m * 256 + x % 256) (x / 256 / m) (256 * m)
    rw [← h5] at h6
    have h7 : (x / 256 % m * 256 + x % 256) % (256 * m) = x / 256 % m * 256 + x % 256 := Int.emod_eq_of_lt (by omega) (by omega)
    rw [h6, h7]

theorem be_beJ' (n : Nat) (v : Int) : be (beJ n n v) = v % 2 ^ (8 * n) := by
  rw [be_beJ n v n (Nat.le_refl _), Nat.sub_self, Nat.mul_zero, Int.pow_zero, Int.ediv_one]

theorem be_lt8 {l : List Int} (h : allB l) {n : Nat} (hn : l.length ≤ n) : 0 ≤ be l ∧ be l < 2 ^ (8 * n) := by
  have := be_lt l h
  refine ⟨this.1, Int.lt_of_lt_of_le this.2 ?_⟩
  have e : (256 : Int) ^ l.length = 2 ^ (8 * l.length) := by rw [show (256 : Int) = 2 ^ 8 by decide, ← Int.pow_mul]
  rw [e]
  exact_mod_cast Nat.pow_le_pow_right (by decide) (show 8 * l.length ≤ 8 * n by omega)

/-! ### 2. what a reader does -/

/-- bytes are taken: the bytes, the place, the fault -/
def tkS (xs : List Int) (at' : Nat) (err n : Int) : List Int × Nat × Int :=
  if err = 0 ∧ 0 ≤ n ∧ n ≤ xs.length - at' then ((xs.drop at').take n.toNat, at' + n.toNat, 0) else ([], at', if err = 0 then 3 else err)
/-- a number is taken -/
def nuS (xs : List Int) (at' : Nat) (err : Int) (n : Nat) : Int × Nat × Int :=
  if 9223372036854775807 < be (tkS xs at' err n).1 then (0, at', 5) else (be (tkS xs at' err n).1, (tkS xs at' err n).2)

/-- the program's reader at rb: its bytes, the place, the fault -/
def brA (rb : Nat) (x : List Int × Nat × Int) : As := exA fun s : Sl => ifA (x.2.1 ≤ x.1.length ∧ s.len ≤ s.cap ∧ allB x.1 ∧ x.1.length ≤ 1099511627776) <| andA (blkA rb [.slice s.a s.len s.cap, .int .i64 (x.2.1 : Int), .int .i64 x.2.2]) (ownA 1 s (u8s x.1))

section
variable {F0 : List Nat} {w0 w : World} {ps rest : List As} {rb at' : Nat} {xs : List Int} {err : Int}

theorem brA_o (h : St F0 w0 w ps) [PkF brA rb ps (xs, at', err) rest] : ∃ s : Sl, at' ≤ xs.length ∧ s.len ≤ s.cap ∧ s.len = xs.length ∧ allB xs ∧ xs.length ≤ 1099511627776 ∧ St F0 w0 w (blkA rb [.slice s.a s.len s.cap, .int .i64 (at' : Int), .int .i64 err] :: ownA 1 s (u8s xs) :: rest) := by
  obtain ⟨s, h⟩ := (h.toF brA rb).exE
  obtain ⟨⟨h1, h2, h3, h4⟩, h⟩ := h.ifE
  have h := h.split
  have hl := h.at1.len
  rw [ivs_length] at hl
  exact ⟨s, h1, h2, by simp only at hl; omega, h3, h4, h⟩

theorem brA_i {s : Sl} (h1 : at' ≤ xs.length) (h2 : s.len ≤ s.cap) (h3 : allB xs) (h4 : xs.length ≤ 1099511627776) (h : St F0 w0 w (blkA rb [.slice s.a s.len s.cap, .int .i64 (at' : Int), .int .i64 err] :: ownA 1 s (u8s xs) :: rest)) : St F0 w0 w (brA rb (xs, at', err) :: rest) :=
  (h.join.ifI (c := at' ≤ xs.length ∧ s.len ≤ s.cap ∧ allB xs ∧ xs.length ≤ 1099511627776) ⟨h1, h2, h3, h4⟩).exI (p := fun s : Sl => ifA (at' ≤ xs.length ∧ s.len ≤ s.cap ∧ allB xs ∧ xs.length ≤ 1099511627776) <| andA (blkA rb [.slice s.a s.len s.cap, .int .i64 (at' : Int), .int .i64 err]) (ownA 1 s (u8s xs))) s

theorem bin_New.c {s : Sl} {K : Ending → World → Prop} (h : St F0 w0 w ps) [Rdb F0 w0 s ps 1 (u8s xs)] (hx : allB xs) (hL : xs.length ≤ 1099511627776)
    (hk : ∀ nb w', St F0 w0 w' (brA nb (xs, 0, 0) :: ps) → K (.returned (.pointer (some ⟨nb, 0, none⟩))) w') : Calls Try.prog 77 ⟨[.slice s.a s.len s.cap]⟩ w K := by
  refine ret_k (bin_New.ok _ _ _ ?_)
  unfold bin_New
  refine slices_Clone_byte.c h (h.rdb s) (by omega) fun s1 w h => ⟨s1, rfl, ?_⟩
  have hc := h.cap (by decide)
  refine h.new fun nb w h => ?_
  exact hk nb w (brA_i (Nat.zero_le _) hc hx hL h)

theorem bin_Reader_Err.c {K : Ending → World → Prop} (h : St F0 w0 w ps) [PkF brA rb ps (xs, at', err) rest] (hk : K (.returned (.int .i64 err)) w) : Calls Try.prog 81 ⟨[.pointer (some ⟨rb, 0, none⟩)]⟩ w K := by
  refine ret_k (bin_Reader_Err.ok _ _ _ ?_)
  unfold bin_Reader_Err
  obtain ⟨s, h1, h2, h3, h4, h5, h⟩ := brA_o (rb := rb) h
  exact nz_i (h.fI hk)

theorem bin_Reader_At.c {K : Ending → World → Prop} (h : St F0 w0 w ps) [PkF brA rb ps (xs, at', err) rest] (hk : K (.returned (.int .i64 at')) w) : Calls Try.prog 83 ⟨[.pointer (some ⟨rb, 0, none⟩)]⟩ w K := by
  refine ret_k (bin_Reader_At.ok _ _ _ ?_)
  unfold bin_Reader_At
  obtain ⟨s, h1, h2, h3, h4, h5, h⟩ := brA_o (rb := rb) h
  exact nz_i (h.fI hk)

theorem bin_Reader_Left.r {s : Sl} {K : Ending → World → Prop} (h : St F0 w0 w (blkA rb [.slice s.a s.len s.cap, .int .i64 (at' : Int), .int .i64 err] :: rest)) (hl : at' ≤ s.len) (hL : s.len ≤ 1099511627776)
    (hk : ∀ w', St F0 w0 w' (blkA rb [.slice s.a s.len s.cap, .int .i64 (at' : Int), .int .i64 err] :: rest) → K (.returned (.int .i64 (if err = 0 then (s.len : Int) - at' else 0))) w') : Calls Try.prog 82 ⟨[.pointer (some ⟨rb, 0, none⟩)]⟩ w K := by
  refine ret_k (bin_Reader_Left.ok _ _ _ ?_)
  unfold bin_Reader_Left
  refine nz_i (h.fI (br_b (fun g => ?_) (fun g => ?_)))
  · rw [if_neg (by simpa using g)] at hk
    exact hk w h
  · rw [if_pos (by simpa using g)] at hk
    refine h.drewK fun w h => ?_
    refine nz_i (h.fL (nz_i (h.fI ?_)))
    refine lt_as (wrap_i64 (by simp only; omega) (by simp only; omega)) ?_
    exact hk w h

theorem bin_Reader_Left.c {K : Ending → World → Prop} (h : St F0 w0 w ps) [PkF brA rb ps (xs, at', err) rest]
    (hk : ∀ w', St F0 w0 w' (brA rb (xs, at', err) :: rest) → K (.returned (.int .i64 (if err = 0 then (xs.length : Int) - at' else 0))) w') : Calls Try.prog 82 ⟨[.pointer (some ⟨rb, 0, none⟩)]⟩ w K := by
  obtain ⟨s, h1, h2, h3, h4, h5, h⟩ := brA_o (rb := rb) h
  refine bin_Reader_Left.r h (by omega) (by omega) fun w h => ?_
  rw [h3]
  exact hk w (brA_i h1 h2 h4 h5 h)

theorem bin_Reader_take.r {s : Sl} {n : Int} {K : Ending → World → Prop} (h : St F0 w0 w (blkA rb [.slice s.a s.len s.cap, .int .i64 (at' : Int), .int .i64 err] :: rest)) (hl : at' ≤ s.len) (hc : s.len ≤ s.cap) (hL : s.len ≤ 1099511627776)
    (hk : ∀ (m : Nat) w', err = 0 → n = m → m ≤ s.len - at' → St F0 w0 w' (blkA rb [.slice s.a s.len s.cap, .int .i64 ((at' + m : Nat) : Int), .int .i64 0] :: rest) → K (.returned (.slice (cutA s.a s.cap at' 1) (at' + m - at') (s.cap - at'))) w')
    (hk2 : ∀ w', ¬(err = 0 ∧ 0 ≤ n ∧ n ≤ (s.len : Int) - at') → St F0 w0 w' (blkA rb [.slice s.a s.len s.cap, .int .i64 (at' : Int), .int .i64 (if err = 0 then 3 else err)] :: rest) → K (.returned (.slice none 0 0)) w') :
    Calls Try.prog 134 ⟨[.pointer (some ⟨rb, 0, none⟩), .int .i64 n]⟩ w K := by
  refine ret_k (bin_Reader_take.ok _ _ _ _ ?_)
  unfold bin_Reader_take
  have bad : ∀ (e : Int) w', e ≠ 0 → e = (if err = 0 then 3 else err) → ¬(err = 0 ∧ 0 ≤ n ∧ n ≤ (s.len : Int) - at') → St F0 w0 w' (blkA rb [.slice s.a s.len s.cap, .int .i64 (at' : Int), .int .i64 e] :: rest) → bin_Reader_take.j1 (some ⟨rb, 0, none⟩) n (fun v w' => K (.returned v) w') w' := by
    intro e w he e1 hn h
    unfold bin_Reader_take.j1
    refine nz_i (h.fI (br_is (by simpa using he) ?_))
    subst e1
    exact hk2 w hn h
  refine nz_i (h.fI (br_b (fun g => ?_) (fun g => ?_)))
  · have g : err = 0 := by simpa using g
    subst g
    refine br_d (fun g => ?_) (fun g => ?_)
    · refine nz_i (h.fst trivial fun w h => ?_)
      exact bad 3 w (by decide) rfl (by omega) h
    · refine bin_Reader_Left.r h hl hL fun w h => ⟨_, rfl, ?_⟩
      rw [if_pos rfl]
      refine br_d (fun g2 => ?_) (fun g2 => ?_)
      · refine nz_i (h.fst trivial fun w h => ?_)
        exact bad 3 w (by decide) rfl (by omega) h
      · obtain ⟨m, rfl⟩ : ∃ m : Nat, n = m := ⟨n.toNat, by omega⟩
        unfold bin_Reader_take.j1
        refine nz_i (h.fI (br_no (by simp) ?_))
        refine nz_i (h.fI ?_)
        refine lt_as (wrap_i64 (by omega) (by omega)) ?_
        refine nz_i (h.fst trivial fun w h => ?_)
        refine h.drewK fun w h => ?_
        refine nz_i (h.fL (nz_i (h.fI ?_)))
        refine lt_as (wrap_i64 (by omega) (by omega)) ?_
        refine nz_i (h.fI ?_)
        refine bd_i (n := at' + m) (by omega) (by simp only; omega) ?_
        refine bd_i (n := at') (by omega) (by omega) (lt_i ?_)
        exact hk m w rfl rfl (by omega) (by rw [Int.natCast_add]; exact h)
  · have g : err ≠ 0 := by simpa using g
    exact bad err w g (by rw [if_neg g]) (fun e => g e.1) h

end

end Go.Proofs.Ytkajimndclhgaaa
