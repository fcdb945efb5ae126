/- Slices that are read; bytes and numbers as rows of bits. Own work. -/
import Derived.Test.YthdmmmfgjmmelaaBitA
namespace Go.Proofs.Ythdmmmfgjmmelaa
open Go Go.Proofs
set_option linter.unusedVariables false
set_option linter.unusedSimpArgs false
attribute [local irreducible] apK cpK mkK

/-! ### 1. slices that can be read -/

/-- the cells of the slice s are cs (sz a piece) -/
def Rd (w : World) (sz : Nat) (s : Sl) (cs : List Value) : Prop := cs.length = s.len * sz ∧ ∀ i, i < cs.length → ∃ a, s.a = some a ∧ w.cell? (a.add i) = cs[i]?

theorem Own.rd {sz : Nat} {w : World} {s : Sl} {cs : List Value} {F : List Nat} (h : Own sz w s cs F) : Rd w sz s cs := by
  refine ⟨h.len, fun i hi => ?_⟩
  obtain ⟨ob, h1, h2⟩ := h.cell hi
  exact ⟨⟨ob, 0, none⟩, h1, by rw [add_mk, Nat.zero_add]; exact h2⟩

theorem Rd.rdO {sz k : Nat} {w : World} {s : Sl} {cs : List Value} {K : Array Value → Prop} (h : Rd w sz s cs) (hk : k = cs.length) (hK : K ⟨cs⟩) : rdO w s.a k K := by
  subst hk
  obtain ⟨h1, h2⟩ := h
  cases e : s.a with
  | none =>
    cases cs with
    | nil => exact ⟨rfl, hK⟩
    | cons c cs =>
      obtain ⟨a, ha, _⟩ := h2 0 (by simp)
      rw [e] at ha; cases ha
  | some a =>
    refine ⟨⟨cs⟩, rfl, fun i hi => ?_, hK⟩
    obtain ⟨a', ha, hc⟩ := h2 i hi
    rw [e] at ha; cases ha
    rw [hc]; simp

/-- an index into a slice that can be read -/
theorem Rd.ix {sz : Nat} {w : World} {s : Sl} {cs : List Value} {i : Int} {K : Addr → Prop} (h : Rd w sz s cs) (hsz : 0 < sz) (h0 : 0 ≤ i) (h1 : i < s.len) (hk : ∀ a, s.a = some a → K (a.add (i.toNat * sz))) : ixS s.a s.len i sz K := by
  have hl := h.1
  have : i.toNat * sz < cs.length := by
    rw [hl]
    exact Nat.mul_lt_mul_of_pos_right (by omega) hsz
  obtain ⟨a, ha, _⟩ := h.2 _ this
  unfold ixS
  rw [ha]
  exact ⟨⟨h0, h1⟩, hk a ha⟩

theorem Rd.cell {sz : Nat} {w : World} {s : Sl} {cs : List Value} (h : Rd w sz s cs) {a : Addr} (ha : s.a = some a) {i : Nat} (hi : i < cs.length) : w.cell? (a.add i) = cs[i]? := by
  obtain ⟨a', ha', hc⟩ := h.2 i hi
  rw [ha] at ha'; cases ha'
  exact hc

theorem add_add (a : Addr) (i j : Nat) : (a.add i).add j = a.add (i + j) := by
  obtain ⟨b, o, p⟩ := a
  cases p with
  | none => rw [add_mk, add_mk, add_mk, Nat.add_assoc]
  | some p =>
    unfold Addr.add
    by_cases hi : i = 0
    · by_cases hj : j = 0
      · simp [hi, hj]
      · simp [hi, hj]
    · by_cases hj : j = 0
      · simp [hi, hj]
      · simp [hi, hj, Nat.add_assoc]

theorem ldI_c {k : IntKind} {w : World} {a : Addr} {n : Int} {K : Int → Prop} (hc : w.cell? a = some (.int k n)) (hk : K n) : ldI k w a K := ⟨n, hc, hk⟩
theorem ldB_c {w : World} {a : Addr} {n : Bool} {K : Bool → Prop} (hc : w.cell? a = some (.bool n)) (hk : K n) : ldB w a K := ⟨n, hc, hk⟩
theorem ldL_c {w : World} {a : Addr} {n : Sl} {K : Sl → Prop} (hc : w.cell? a = some (.slice n.a n.len n.cap)) (hk : K n) : ldL w a K := ⟨n, hc, hk⟩

theorem Rd.ldI {k : IntKind} {sz : Nat} {w : World} {s : Sl} {cs : List Value} {a : Addr} {i : Nat} {n : Int} {K : Int → Prop} (h : Rd w sz s cs) (ha : s.a = some a) (hv : cs[i]? = some (.int k n)) (hk : K n) : ldI k w (a.add i) K := by
  refine ⟨n, ?_, hk⟩
  have hi : i < cs.length := by
    rcases Nat.lt_or_ge i cs.length with h1 | h1
    · exact h1
    · rw [List.getElem?_eq_none h1] at hv; cases hv
  rw [h.cell ha hi]; exact hv
theorem Rd.ldB {sz : Nat} {w : World} {s : Sl} {cs : List Value} {a : Addr} {i : Nat} {n : Bool} {K : Bool → Prop} (h : Rd w sz s cs) (ha : s.a = some a) (hv : cs[i]? = some (.bool n)) (hk : K n) : ldB w (a.add i) K := by
  refine ⟨n, ?_, hk⟩
  have hi : i < cs.length := by
    rcases Nat.lt_or_ge i cs.length with h1 | h1
    · exact h1
    · rw [List.getElem?_eq_none h1] at hv; cases hv
  rw [h.cell ha hi]; exact hv

theorem cell_lt {w : World} {a : Addr} {v : Value} (h : w.cell? a = some v) : a.block < w.heap.size := by
  unfold World.cell? at h
  rcases Nat.lt_or_ge a.block w.heap.size with h1 | h1
  · exact h1
  · have : w.heap[a.block]? = none := Array.getElem?_eq_none h1
    simp [this] at h

theorem add_block (a : Addr) (i : Nat) : (a.add i).block = a.block := by unfold Addr.add; split <;> rfl

theorem cell_congr {w w' : World} {a : Addr} (h : w'.heap[a.block]? = w.heap[a.block]?) : w'.cell? a = w.cell? a := by
  unfold World.cell?
  rw [h]

theorem Rd.keep {sz : Nat} {w w' : World} {s : Sl} {cs : List Value} {G : List Nat} (h : Rd w sz s cs) (m : Mod G w w') (hG : ∀ a, s.a = some a → a.block ∉ G) : Rd w' sz s cs := by
  refine ⟨h.1, fun i hi => ?_⟩
  obtain ⟨a, ha, hc⟩ := h.2 i hi
  refine ⟨a, ha, ?_⟩
  rw [← hc]
  rw [List.getElem?_eq_getElem hi] at hc
  have hlt := cell_lt hc
  rw [add_block] at hlt
  apply cell_congr
  rw [add_block]
  exact m.frame _ hlt (hG a ha)

/-- block b is a row of the cells l, frozen or not -/
def RBlk (w : World) (b : Nat) (l : List Value) : Prop := ∃ t f, w.heap[b]? = some (.cells ⟨l⟩ t f)
theorem Blk.rb {w : World} {b : Nat} {l : List Value} (h : Blk w b l) : RBlk w b l := by
  obtain ⟨t, h⟩ := h
  exact ⟨t, _, h⟩
theorem RBlk.lt {w : World} {b : Nat} {l : List Value} (h : RBlk w b l) : b < w.heap.size := by
  obtain ⟨t, f, h⟩ := h
  exact (Array.getElem?_eq_some_iff.1 h).1
theorem RBlk.keep {F : List Nat} {w w' : World} {b : Nat} {l : List Value} (h : RBlk w b l) (m : Mod F w w') (hb : b ∉ F) : RBlk w' b l := by
  have hl := h.lt
  obtain ⟨t, f, h⟩ := h
  exact ⟨t, f, by rw [m.frame b hl hb]; exact h⟩
theorem RBlk.cell {w : World} {b : Nat} {l : List Value} (h : RBlk w b l) (o : Nat) : w.cell? ⟨b, o, none⟩ = l[o]? := by
  obtain ⟨t, f, h⟩ := h
  simp [World.cell?, h]

/-- a slice that can be read, wherever it lies -/
def rdA (sz : Nat) (s : Sl) (cs : List Value) : As where
  hd w F := cs.length = s.len * sz ∧ ((cs = [] ∧ F = []) ∨ ∃ b o l, s.a = some ⟨b, o, none⟩ ∧ RBlk w b l ∧ F = [b] ∧ ∀ i, i < cs.length → l[o + i]? = cs[i]?)
  keep := by
    rintro w w' F G ⟨hl, h⟩ m hd
    refine ⟨hl, ?_⟩
    rcases h with h | ⟨b, o, l, h1, h2, rfl, h3⟩
    · exact Or.inl h
    · exact Or.inr ⟨b, o, l, h1, h2.keep m (hd b (by simp)), rfl, h3⟩
  lt := by
    rintro w F ⟨hl, ⟨_, rfl⟩ | ⟨b, o, l, h1, h2, rfl, h3⟩⟩ x hx
    · cases hx
    · have : x = b := by simpa using hx
      subst this; exact h2.lt

section
variable {F0 : List Nat} {w0 w : World} {p : As} {ps : List As} {sz : Nat} {s : Sl} {cs : List Value}

theorem St.rd (h : St F0 w0 w (rdA sz s cs :: ps)) : Rd w sz s cs := by
  obtain ⟨F, hl, ⟨rfl, rfl⟩ | ⟨b, o, l, h1, h2, rfl, h3⟩⟩ := h.get
  · exact ⟨hl, fun i hi => by simp at hi⟩
  · refine ⟨hl, fun i hi => ⟨_, h1, ?_⟩⟩
    rw [add_mk, h2.cell]
    exact h3 i hi

theorem St.ord (h : St F0 w0 w (ownA sz s cs :: ps)) : Rd w sz s cs := by
  obtain ⟨F, h⟩ := h.own; exact h.rd

theorem Own.ro {F : List Nat} (h : Own sz w s cs F) : ∃ F', (rdA sz s cs).hd w F' ∧ ∀ x ∈ F', x ∈ F := by
  refine ⟨F, ⟨h.len, ?_⟩, fun _ h => h⟩
  rcases h with ⟨_, h1, h2⟩ | ⟨ob, rest, h1, hb, _, _, rfl⟩
  · exact Or.inl ⟨h1, h2⟩
  · exact Or.inr ⟨ob, 0, cs ++ rest, h1, hb.rb, rfl, fun i hi => by rw [Nat.zero_add, List.getElem?_append_left hi]⟩

theorem St.ro (h : St F0 w0 w (ownA sz s cs :: ps)) : St F0 w0 w (rdA sz s cs :: ps) := by
  refine h.mp fun F h => ?_
  refine ⟨Own.len h, ?_⟩
  rcases h with ⟨_, h1, h2⟩ | ⟨ob, rest, h1, hb, _, _, rfl⟩
  · exact Or.inl ⟨h1, h2⟩
  · exact Or.inr ⟨ob, 0, cs ++ rest, h1, hb.rb, rfl, fun i hi => by rw [Nat.zero_add, List.getElem?_append_left hi]⟩

/-- a slice of the same cells, of any room -/
theorem St.recap {s' : Sl} (h : St F0 w0 w (rdA sz s cs :: ps)) (ha : s'.a = s.a) (hl : s'.len = s.len) : St F0 w0 w (rdA sz s' cs :: ps) := by
  refine h.mp fun F h => ?_
  unfold rdA at h ⊢
  simp only at h ⊢
  rw [ha, hl]; exact h

end

/-- constant bytes -/
theorem mkStr_i {F0 : List Nat} {w0 w : World} {ps : List As} {b n : Nat} {l : List Value} {K : World → Prop} (h : St F0 w0 w (blkA b l :: ps)) (hn : l.length = n) (hk : ∀ w', St F0 w0 w' (rdA 1 ⟨some ⟨b, 0, none⟩, n, n⟩ l :: ps) → K w') : mkStr w (some ⟨b, 0, none⟩) K := by
  obtain ⟨f, ⟨hb, rfl⟩, hstep⟩ := h.step
  obtain ⟨t, hs⟩ := hb.shape
  have e : w.freeze ⟨b, l.length, none⟩ 1 = { w with heap := w.heap.modify b fun
      | .cells c elem (lo, hi) => .cells c elem (if (lo == hi) = true then (l.length, l.length + 1) else (min lo l.length, max hi (l.length + 1)))
      | o => o } := rfl
  refine ⟨t, l.length, hs, hk _ (hstep _ [b] _ ?_ (Gr.refl _ _) ⟨by simp [hn], Or.inr ⟨b, 0, l, rfl, ?_, rfl, fun i hi => by rw [Nat.zero_add]⟩⟩)⟩
  · rw [e]
    refine ⟨rfl, rfl, rfl, by simp, fun x hx hF => ?_⟩
    simp only [Array.getElem?_modify]
    rw [if_neg]
    intro h
    exact hF (by simp [h])
  · obtain ⟨t, hb⟩ := hb
    refine ⟨t, (l.length, l.length + 1), ?_⟩
    rw [e]
    simp only [Array.getElem?_modify, if_true, hb, Option.map_some]
    rfl

/-! ### 2. rows of bits -/

def val : List Bool → Nat
  | [] => 0
  | b :: l => b.toNat + 2 * val l

theorem val_lt (l : List Bool) : val l < 2 ^ l.length := by
  induction l with
  | nil => simp [val]
  | cons b l ih =>
    rw [val, List.length_cons, Nat.pow_succ]
    have : b.toNat ≤ 1 := by cases b <;> simp
    omega

theorem val_append (a b : List Bool) : val (a ++ b) = val a + 2 ^ a.length * val b := by
  induction a with
  | nil => simp [val]
  | cons x a ih =>
    rw [List.cons_append, val, val, ih, List.length_cons, Nat.pow_succ, Nat.mul_add, ← Nat.mul_assoc, Nat.mul_comm 2 (2 ^ a.length)]
    omega

theorem val_no (n : Nat) : val (List.replicate n false) = 0 := by
  induction n with
  | zero => rfl
  | succ n ih => rw [List.replicate_succ, val, ih]; rfl

/-- a bit of a number -/
def bt (v : Int) (i : Nat) : Bool := v / 2 ^ i % 2 == 1
/-- the lowest n bits of a number, the lowest first -/
def bitsOf (v : Int) (n : Nat) : List Bool := (List.range n).map (bt v)

theorem bitsOf_length (v : Int) (n : Nat) : (bitsOf v n).length = n := by simp [bitsOf]
theorem bitsOf_succ (v : Int) (n : Nat) : bitsOf v (n + 1) = bitsOf v n ++ [bt v n] := by simp [bitsOf, List.range_succ]

theorem bt_toNat (v : Int) (i : Nat) : (((bt v i).toNat : Nat) : Int) = v / 2 ^ i % 2 := by
  unfold bt
  have h1 : 0 ≤ v / 2 ^ i % 2 := by omega
  have h2 : v / 2 ^ i % 2 < 2 := by omega
  generalize v / 2 ^ i % 2 = x at h1 h2
  by_cases h : x = 1
  · subst h; rfl
  · have : x = 0 := by omega
    subst this; rfl

theorem mod_pow_succ (v : Int) (n : Nat) : v % 2 ^ (n + 1) = v % 2 ^ n + 2 ^ n * (v / 2 ^ n % 2) := by
  have hp : (0 : Int) < 2 ^ n := Int.pow_pos (by decide)
  have h1 := Int.mul_ediv_add_emod v (2 ^ n)
  have h2 := Int.mul_ediv_add_emod (v / 2 ^ n) 2
  have h3 := Int.mul_ediv_add_emod v (2 ^ (n + 1))
  have h4 : v / 2 ^ (n + 1) = v / 2 ^ n / 2 := by
    rw [Int.pow_succ, Int.ediv_ediv_of_nonneg (by omega)]
  rw [h4] at h3
  have e : (2 : Int) ^ (n + 1) * (v / 2 ^ n / 2) = 2 ^ n * (2 * (v / 2 ^ n / 2)) := by
    rw [Int.pow_succ, Int.mul_assoc]
  rw [e] at h3
  have e2 : (2 : Int) ^ n * (2 * (v / 2 ^ n / 2)) = 2 ^ n * (v / 2 ^ n) - 2 ^ n * (v / 2 ^ n % 2) := by
    rw [← Int.mul_sub]
    congr 1
    omega
  omega

theorem val_bitsOf (v : Int) (n : Nat) : ((val (bitsOf v n) : Nat) : Int) = v % 2 ^ n := by
  induction n with
  | zero => simp [bitsOf, val, Int.emod_one]
  | succ n ih =>
    rw [bitsOf_succ, val_append, bitsOf_length, mod_pow_succ, ← ih]
    have : val [bt v n] = (bt v n).toNat := by simp [val]
    rw [this, Int.natCast_add, Int.natCast_mul, bt_toNat]
    simp

theorem val_bitsOf' (v : Int) (n : Nat) : val (bitsOf v n) = (v % 2 ^ n).toNat := by
  have := val_bitsOf v n
  omega

theorem bt_nat (V i : Nat) : bt (V : Int) i = V.testBit i := by
  unfold bt Nat.testBit
  have e : ((V : Int) / 2 ^ i % 2) = ((V / 2 ^ i % 2 : Nat) : Int) := by simp
  rw [e]
  rw [Nat.shiftRight_eq_div_pow]
  have h : V / 2 ^ i % 2 < 2 := Nat.mod_lt _ (by decide)
  generalize V / 2 ^ i = x at h
  rw [Nat.and_comm, Nat.and_one_is_mod]
  generalize x % 2 = y at h
  have : y = 0 ∨ y = 1 := by omega
  rcases this with rfl | rfl <;> rfl

/-- a row of bits is the bits of its number -/
theorem bitsOf_val (l : List Bool) : bitsOf (val l) l.length = l := by
  induction l with
  | nil => rfl
  | cons b l ih =>
    rw [List.length_cons]
    unfold bitsOf at ih ⊢
    rw [List.range_succ_eq_map, List.map_cons, List.map_map]
    congr 1
    · unfold bt
      rw [val]
      cases b <;> simp <;> omega
    · conv => rhs; rw [← ih]
      apply List.map_congr_left
      intro i _
      unfold bt
      simp only [Function.comp]
      rw [val]
      congr 2
      have : ((b.toNat + 2 * val l : Nat) : Int) / 2 ^ (i + 1) = ((val l : Nat) : Int) / 2 ^ i := by
        rw [Int.pow_succ, Int.mul_comm, ← Int.ediv_ediv_of_nonneg (by decide)]
        congr 1
        have : b.toNat ≤ 1 := by cases b <;> simp
        omega
      exact this

theorem val_inj {a b : List Bool} (hl : a.length = b.length) (h : val a = val b) : a = b := by
  rw [← bitsOf_val a, ← bitsOf_val b, h, hl]

theorem val_drop (l : List Bool) (k : Nat) : val (l.drop k) = val l / 2 ^ k := by
  induction k generalizing l with
  | zero => simp
  | succ k ih =>
    cases l with
    | nil => simp [val]
    | cons b l =>
      have : b.toNat ≤ 1 := by cases b <;> simp
      have e : (b.toNat + 2 * val l) / 2 = val l := by omega
      rw [List.drop_succ_cons, ih, val, Nat.pow_succ, Nat.mul_comm (2 ^ k), ← Nat.div_div_eq_div_mul, e]

theorem val_take (l : List Bool) (k : Nat) : val (l.take k) = val l % 2 ^ k := by
  induction k generalizing l with
  | zero => simp [val, Nat.mod_one]
  | succ k ih =>
    cases l with
    | nil => simp [val]
    | cons b l =>
      rw [List.take_succ_cons, val, ih, val]
      have : b.toNat ≤ 1 := by cases b <;> simp
      rw [Nat.pow_succ, Nat.mul_comm (2 ^ k), Nat.mod_mul]
      have e1 : (b.toNat + 2 * val l) % 2 = b.toNat := by omega
      have e2 : (b.toNat + 2 * val l) / 2 = val l := by omega
      rw [e1, e2]

/-! ### 3. rows of bits turned round -/

/-- the number of the lowest t bits the other way round, behind out -/
def turnN : Nat → Int → Nat → Nat
  | 0, _, out => out
  | t + 1, v, out => turnN t (v / 2) (2 * out + (v % 2).toNat)

theorem turnN_val (t : Nat) : ∀ (v : Int) (l : List Bool), turnN t v (val l) = val ((bitsOf v t).reverse ++ l) := by
  induction t with
  | zero => intro v l; rfl
  | succ t ih =>
    intro v l
    have e : 2 * val l + (v % 2).toNat = val (bt v 0 :: l) := by
      rw [val]
      have := bt_toNat v 0
      rw [Int.pow_zero, Int.ediv_one] at this
      omega
    rw [turnN, e, ih]
    congr 1
    have : bitsOf v (t + 1) = bt v 0 :: bitsOf (v / 2) t := by
      unfold bitsOf
      rw [List.range_succ_eq_map, List.map_cons, List.map_map]
      congr 1
      apply List.map_congr_left
      intro i _
      simp only [Function.comp, bt]
      congr 2
      rw [Int.pow_succ, Int.mul_comm, ← Int.ediv_ediv_of_nonneg (by decide)]
    rw [this, List.reverse_cons, List.append_assoc]
    rfl

theorem turnN_eq (t : Nat) (v : Int) : turnN t v 0 = val (bitsOf v t).reverse := by
  have := turnN_val t v []
  simpa [val] using this

theorem bitsOf_turn (t : Nat) (v : Int) : bitsOf (turnN t v 0 : Nat) t = (bitsOf v t).reverse := by
  rw [turnN_eq]
  have := bitsOf_val (bitsOf v t).reverse
  rwa [List.length_reverse, bitsOf_length] at this

def turn (v n : Int) : Int := if 0 ≤ n ∧ n ≤ 24 then (turnN n.toNat v 0 : Nat) else 0
/-- the bits that Put puts -/
def pb (v n : Int) : List Bool := if 0 ≤ n ∧ n ≤ 24 then bitsOf v n.toNat else []

theorem pb_turn (v n : Int) : pb (turn v n) n = (pb v n).reverse := by
  unfold pb turn
  split
  · rw [bitsOf_turn]
  · rfl

theorem putL_pb (l : List Bool) (v n : Int) : putL l.length n = (l ++ pb v n).length := by
  unfold putL pb
  split
  · rw [List.length_append, bitsOf_length]
  · simp

theorem putV_pb (l : List Bool) (v n : Int) : putV l.length (val l) v n = val (l ++ pb v n) := by
  unfold putV pb
  split
  · rw [val_append, val_bitsOf']
  · simp

end Go.Proofs.Ythdmmmfgjmmelaa
