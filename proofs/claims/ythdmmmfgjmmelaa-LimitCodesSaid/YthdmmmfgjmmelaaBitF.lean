/- The document's writer of bits. Own work. -/
import Derived.Test.YthdmmmfgjmmelaaBitE
namespace Go.Proofs.Ythdmmmfgjmmelaa
open Go Go.Proofs
set_option linter.unusedVariables false
set_option linter.unusedSimpArgs false
attribute [local irreducible] apK cpK mkK

/-! ### 1. unsigned kinds -/

theorem wrap_uns {k : IntKind} (hk : k.signed = false) (x : Int) : k.wrap x = x % 2 ^ k.bits := by
  simp [IntKind.wrap, hk]

theorem wrap_unat {k : IntKind} (hk : k.signed = false) {n : Nat} (h : n < 2 ^ k.bits) : k.wrap (n : Int) = n := by
  rw [wrap_uns hk]
  exact Int.emod_eq_of_lt (by omega) (by exact_mod_cast h)

theorem orV_unat {k : IntKind} (hk : k.signed = false) {a b : Nat} (ha : a < 2 ^ k.bits) (hb : b < 2 ^ k.bits) : orV k (a : Int) (b : Int) = ((a ||| b : Nat) : Int) := by
  unfold orV
  rw [BitVec.toNat_or, ofInt_toNat' _ _ ha, ofInt_toNat' _ _ hb]
  exact wrap_unat hk (Nat.or_lt_two_pow ha hb)

theorem orV_uadd {k : IntKind} (hk : k.signed = false) {a b : Nat} {t : Nat} (ha : a < 2 ^ t) (hs : a + b * 2 ^ t < 2 ^ k.bits) : orV k (a : Int) ((b : Int) * 2 ^ t) = (a : Int) + (b : Int) * 2 ^ t := by
  have e : (b : Int) * 2 ^ t = ((b * 2 ^ t : Nat) : Int) := by simp
  rw [e, orV_unat hk (by omega) (by omega), Nat.or_comm]
  have := Nat.two_pow_add_eq_or_of_lt ha b
  rw [Nat.mul_comm b, ← this]
  simp
  omega

theorem shlV_u {k : IntKind} (hk : k.signed = false) {x : Nat} {t : Nat} (ht : t ≤ k.bits) (hs : x * 2 ^ t < 2 ^ k.bits) : shlV k (x : Int) (t : Int) = (x : Int) * 2 ^ t := by
  unfold shlV
  rw [Int.toNat_natCast, Nat.min_eq_left ht]
  have e : (x : Int) * 2 ^ t = ((x * 2 ^ t : Nat) : Int) := by simp
  rw [e, wrap_unat hk hs]

/-! ### 2. one's own slices: made, set, one cell behind -/

section
variable {F0 : List Nat} {w0 w : World} {ps : List As}

theorem St.append1 {P : Program} {e : TypeId} {i : TypeInfo} {z v : Value} {s : Sl} {cs : List Value} {c : Array Value} {K : Sl → World → Prop}
    (hi : P.info? e = some i) (hsz : i.size = 1) (hz : zc P e = #[z]) (hb0 : i.bytes ≠ 0) (hb : i.bytes ≤ 16)
    (h : St F0 w0 w (ownA 1 s cs :: ps)) (hlen : cs.length ≤ 1099511627776) (hc : c = ⟨[v]⟩) (hv : storable v)
    (hk : ∀ s' w', St F0 w0 w' (ownA 1 s' (cs ++ [v]) :: ps) → K s' w') : apK P e w s.a s.len s.cap 1 c K := by
  subst hc
  have hl := h.len
  refine St.append (i := i) (sz := 1) (m := 1) hi hsz (by decide) (by rw [hz]; rfl) hb0 ?_ h (by rfl) (by simpa using hv) (fun s' w' h _ => hk s' w' h)
  refine Nat.le_trans (Nat.mul_le_mul_left _ hb) ?_
  have hl2 : s.len ≤ 1099511627776 := by omega
  clear hk h
  generalize s.len = n at hl2
  omega

/-- a cell of one's own slice is set -/
theorem St.setO {sz : Nat} {s : Sl} {cs : List Value} {i : Nat} {v : Value} {a : Addr} {K : World → Prop} (h : St F0 w0 w (ownA sz s cs :: ps)) (ha : s.a = some a) (hi : i < cs.length) (hs : storable v)
    (hk : ∀ w', St F0 w0 w' (ownA sz s (cs.set i v) :: ps) → K w') : Go.Proofs.Ythdmmmfgjmmelaa.st w (a.add i) v K := by
  obtain ⟨f, ho, hstep⟩ := h.step
  rcases ho with ⟨rfl, rfl, _⟩ | ⟨ob, rest, h1, hb, h2, h3, rfl⟩
  · simp at hi
  · rw [h1] at ha
    cases ha
    rw [add_mk, Nat.zero_add]
    refine hb.st (by rw [List.length_append]; omega) hs fun w' hm hb' => hk w' (hstep w' [ob] _ hm (Gr.refl _ _) (Or.inr ⟨ob, rest, h1, ?_, by simpa using h2, by simpa using h3, rfl⟩))
    rw [List.set_append_left _ _ hi] at hb'
    exact hb'

theorem repL_one (n : Nat) (z : Value) : repL n [z] = List.replicate n z := by
  induction n with
  | zero => rfl
  | succ n ih => rw [repL, ih, List.replicate_succ]; rfl

/-- a new row -/
theorem St.make1 {P : Program} {e : TypeId} {z : Value} {n : Nat} {l c : Int} {K : Sl → World → Prop} (hz : zc P e = #[z]) (hl : l = n) (hc : c = n) (hn : n ≤ 1099511627776) (hb : P.bytesOf e ≤ 16) (h : St F0 w0 w ps)
    (hk : ∀ s w', s.len = n → s.cap = n → St F0 w0 w' (ownA 1 s (List.replicate n z) :: ps) → K s w') : mkK P e w l c K := by
  subst hl hc
  unfold mkK
  refine ⟨⟨by omega, by omega, by omega, ?_⟩, ?_⟩
  · have : P.bytesOf e * n ≤ 16 * n := Nat.mul_le_mul_right _ hb
    have e2 : ((P.bytesOf e : Int) * (n : Int)) = ((P.bytesOf e * n : Nat) : Int) := by simp
    rw [e2]
    have : ((P.bytesOf e * n : Nat) : Int) ≤ ((16 * n : Nat) : Int) := by exact_mod_cast this
    have h3 : (2 : Int) ^ 48 = 281474976710656 := by decide
    omega
  · refine hk ⟨newAt w, _, _⟩ _ (by simp) (by simp) ?_
    rw [hz]
    refine h.add (f' := [w.heap.size]) (Mod.alloc _ _) (Or.inr ⟨w.heap.size, [], rfl, ?_, by simp, by simp, rfl⟩) (fun x hx => Or.inr (by have : x = w.heap.size := (by simpa using hx); omega))
    have := Blk.new w (repL ((n : Int)).toNat #[z].toList) e
    rw [List.append_nil]
    rw [Int.toNat_natCast] at this ⊢
    rw [show (#[z] : Array Value).toList = [z] from rfl, repL_one] at this ⊢
    exact this

end

/-! ### 3. the document's writer -/

def bools (l : List Bool) : List Value := l.map Value.bool
theorem bools_length (l : List Bool) : (bools l).length = l.length := by simp [bools]
theorem bools_append (a b : List Bool) : bools (a ++ b) = bools a ++ bools b := by simp [bools]

theorem info_bool : Try.prog.info? 4 = some Try.t4 := by kernel_rfl
theorem zc_bool : zc Try.prog 4 = #[.bool false] := by kernel_rfl
theorem bytes_u8 : Try.prog.bytesOf 5 ≤ 16 := by
  rw [Program.bytesOf, info_u8]
  decide

def rwA (wb : Nat) (l : List Bool) : As := exA fun s : Sl => andA (blkA wb [.slice s.a s.len s.cap]) (ownA 1 s (bools l))

section
variable {F0 : List Nat} {w0 w : World} {ps : List As}

theorem rwA_o {wb : Nat} {l : List Bool} (h : St F0 w0 w (rwA wb l :: ps)) : ∃ s : Sl, s.len = l.length ∧ St F0 w0 w (blkA wb [.slice s.a s.len s.cap] :: ownA 1 s (bools l) :: ps) := by
  obtain ⟨s, h⟩ := h.exE
  have h := h.split
  have hl := h.at1.len
  rw [bools_length] at hl
  exact ⟨s, by omega, h⟩

theorem rwA_i {wb : Nat} {l : List Bool} {s : Sl} (h : St F0 w0 w (blkA wb [.slice s.a s.len s.cap] :: ownA 1 s (bools l) :: ps)) : St F0 w0 w (rwA wb l :: ps) :=
  h.join.exI (p := fun s : Sl => andA (blkA wb [.slice s.a s.len s.cap]) (ownA 1 s (bools l))) s

theorem bt_eq (v : Int) (i : Nat) : (v / 2 ^ i % 2 == 1) = bt v i := rfl

/-- one bit behind -/
theorem rw_put {wb : Nat} {l : List Bool} {b : Bool} {s : Sl} {K : World → Prop} (h : St F0 w0 w (blkA wb [.slice s.a s.len s.cap] :: ownA 1 s (bools l) :: ps)) (hL : l.length ≤ 549755813888)
    (hk : ∀ w', St F0 w0 w' (rwA wb (l ++ [b]) :: ps) → K w') :
    lt (⟨World.heapSize w, 0, none⟩ : Addr) fun a6 => lt (World.alloc w (.cells ⟨[.bool b]⟩ 4)) fun w7 =>
    rdO w7 (some a6) (1 * 1) fun c8 => apK Try.prog 4 w7 s.a s.len s.cap 1 c8 fun s9 w10 =>
    nz (some ⟨wb, 0, none⟩) fun a11 => st w10 (Addr.add a11 0) (.slice s9.a s9.len s9.cap) fun w12 => K w12 := by
  refine h.new fun nb w h => ?_
  refine h.rdB rfl ?_
  have h := h.drop.at1
  refine h.append1 (i := Try.t4) info_bool rfl zc_bool (by decide) (by decide) (by rw [bools_length]; omega) rfl trivial fun s3 w h => ?_
  have h := h.at1
  refine nz_i (h.st (o := 0) (by simp) trivial fun w h => ?_)
  refine hk w (rwA_i (s := s3) ?_)
  rw [bools_append]
  exact h

theorem byt_set {V q r K : Nat} (hV : V < 2 ^ (8 * q + r)) (hr : r < 8) (hq : q < K) : byt (V + 2 ^ (8 * q + r)) K = (byt V K).set q ((V / 2 ^ (8 * q) + 2 ^ r : Nat) : Int) := by
  apply List.ext_getElem?
  intro i
  rw [List.getElem?_set]
  by_cases hi : i < K
  · have e1 : (byt (V + 2 ^ (8 * q + r)) K)[i]? = some ((((V + 2 ^ (8 * q + r)) / 2 ^ (8 * i) % 256 : Nat)) : Int) := by simp [byt, hi]
    have e2 : (byt V K)[i]? = some (((V / 2 ^ (8 * i) % 256 : Nat)) : Int) := by simp [byt, hi]
    rw [e1, e2, byt_length]
    have hpr : 2 ^ r ≤ 2 ^ 7 := Nat.pow_le_pow_right (by decide) (by omega)
    have hd : V / 2 ^ (8 * q) < 2 ^ r := by
      rw [Nat.div_lt_iff_lt_mul (Nat.pow_pos (by decide)), ← Nat.pow_add, Nat.add_comm r]
      exact hV
    by_cases h : q = i
    · subst h
      rw [if_pos rfl, if_pos hq]
      congr 2
      rw [Nat.pow_add, Nat.add_mul_div_left _ _ (Nat.pow_pos (by decide)), Nat.mod_eq_of_lt (by omega)]
    · rw [if_neg h]
      congr 2
      rcases Nat.lt_or_ge i q with h1 | h1
      · have e : 2 ^ (8 * q + r) = 2 ^ (8 * i) * (256 * 2 ^ (8 * q + r - 8 * i - 8)) := by
          rw [show (256 : Nat) = 2 ^ 8 from rfl, ← Nat.pow_add, ← Nat.pow_add]
          congr 1
          omega
        rw [e, Nat.add_mul_div_left _ _ (Nat.pow_pos (by decide)), Nat.add_mul_mod_self_left]
      · have h2 : 2 ^ (8 * q + r) + 2 ^ (8 * q + r) ≤ 2 ^ (8 * i) := by
          have : 2 ^ (8 * q + r + 1) ≤ 2 ^ (8 * i) := Nat.pow_le_pow_right (by decide) (by omega)
          rw [Nat.pow_succ] at this
          omega
        rw [Nat.div_eq_of_lt (by omega), Nat.div_eq_of_lt (by omega)]
  · have e1 : (byt (V + 2 ^ (8 * q + r)) K)[i]? = none := List.getElem?_eq_none (by rw [byt_length]; omega)
    have e2 : (byt V K)[i]? = none := List.getElem?_eq_none (by rw [byt_length]; omega)
    rw [e1, e2, if_neg (by omega)]

theorem u8s_set (xs : List Int) (i : Nat) (v : Int) : (u8s xs).set i (.int .u8 v) = u8s (xs.set i v) := by
  unfold u8s
  rw [List.map_set]

theorem byt_no (K : Nat) : byt 0 K = List.replicate K 0 := by
  apply List.ext_getElem
  · simp [byt]
  · intro i h1 h2; simp [byt]

end

end Go.Proofs.Ythdmmmfgjmmelaa
