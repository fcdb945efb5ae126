/- The law on stored blocks. Own work. -/
import Derived.Test.YtkajimndclhgaaaInfH
namespace Go.Proofs.Ytkajimndclhgaaa
open Go Go.Proofs
set_option linter.unusedVariables false
set_option linter.unusedSimpArgs false
attribute [local irreducible] apK cpK mkK br

/-! ### numbers -/

theorem xorV_nat {a b : Nat} (ha : a < 9223372036854775808) (hb : b < 9223372036854775808) : xorV .i64 (a : Int) (b : Int) = ((a ^^^ b : Nat) : Int) := by
  have hx : a ^^^ b < 2 ^ 63 := Nat.xor_lt_two_pow (by simpa using ha) (by simpa using hb)
  have e : (BitVec.ofInt 64 (a : Int) ^^^ BitVec.ofInt 64 (b : Int)).toNat = a ^^^ b := by
    rw [BitVec.ofInt_natCast, BitVec.ofInt_natCast, BitVec.toNat_xor, BitVec.toNat_ofNat, BitVec.toNat_ofNat, Nat.mod_eq_of_lt (by omega), Nat.mod_eq_of_lt (by omega)]
  show IntKind.i64.wrap (((BitVec.ofInt 64 (a : Int) ^^^ BitVec.ofInt 64 (b : Int)).toNat : Nat) : Int) = _
  rw [e]
  generalize a ^^^ b = c at hx
  exact wrap_i64 (by omega) (by omega)

theorem xor_good {a : Nat} (ha : a < 65536) : (65535 ^^^ a) < 65536 ∧ a ^^^ (65535 ^^^ a) = 65535 := by
  refine ⟨Nat.xor_lt_two_pow (n := 16) (by decide) ha, ?_⟩
  rw [Nat.xor_comm 65535 a, ← Nat.xor_assoc, Nat.xor_self, Nat.zero_xor]
theorem xor_bad {a : Nat} (ha : a < 65536) : ((65535 ^^^ a) ^^^ 1) < 65536 ∧ a ^^^ ((65535 ^^^ a) ^^^ 1) ≠ 65535 := by
  refine ⟨Nat.xor_lt_two_pow (n := 16) (xor_good ha).1 (by decide), ?_⟩
  rw [← Nat.xor_assoc, (xor_good ha).2]
  decide

/-! ### steps -/

inductive ZGo (B : List Bool) (most : Int) : Z → Z → Prop
  | refl (z : Z) : ZGo B most z z
  | step {z z1 : Z} (h : ZGo B most z z1) (h2 : znot2 B z1) (he : (zblock B most z1).2.2.2 = 0) (hl : (zblock B most z1).1 = false) : ZGo B most z (zblock B most z1).2
theorem ZGo.run {B : List Bool} {most : Int} {z z1 z' : Z} (h : ZGo B most z z1) : ∀ {n : Nat}, ZRun B most n z1 z' → ∃ m, ZRun B most m z z' := by
  induction h with
  | refl => intro n hr; exact ⟨n, hr⟩
  | step h h2 he hl ih => intro n hr; exact ih (ZRun.next h2 he hl hr)

/-- the bits of bytes -/
def bb (ys : List Int) : List Bool := ys.flatMap fun x => bitsOf x 8
theorem bb_length (ys : List Int) : (bb ys).length = 8 * ys.length := by
  induction ys with
  | nil => rfl
  | cons y ys ih =>
    have : bb (y :: ys) = bitsOf y 8 ++ bb ys := rfl
    rw [this, List.length_append, ih, bitsOf_length, List.length_cons]; omega
theorem bb_snoc (ys : List Int) (y : Int) : bb (ys ++ [y]) = bb ys ++ bitsOf y 8 := by simp [bb]

theorem zst_full {B : List Bool} {most : Int} : ∀ (ys : List Int) (p : Nat) (out : List Int) (r : List Bool), (∀ y ∈ ys, 0 ≤ y ∧ y < 256) → p ≤ B.length → B.drop p = bb ys ++ r → (out.length + ys.length : Int) ≤ most → zst B most ys.length (p, out, 0) = (p + 8 * ys.length, out ++ ys, 0) := by
  intro ys
  induction ys with
  | nil => intro p out r _ _ _ _; simp [zst]
  | cons y ys ih =>
    intro p out r hy hp hd hm
    rw [List.length_cons] at hm
    have e : bb (y :: ys) = bitsOf y 8 ++ bb ys := rfl
    rw [e, List.append_assoc] at hd
    have l1 := drop_len hd
    have hy0 := hy y (by simp)
    rw [bitsOf_length] at l1
    have hd2 := drop_more hd
    rw [bitsOf_length] at hd2
    rw [List.length_cons, zst, zget_at hd (by rw [bitsOf_length]; rfl) (by rw [bitsOf_length]; decide) hp]
    simp only
    rw [show (bitsOf y 8 : List Bool) = bitsOf y (8 : Int).toNat from rfl, val_small (x := 8) hy0.1 (by have : (2 : Int) ^ (8 : Int).toNat = 256 := by decide
                                                                                                        omega)]
    unfold zput
    rw [if_neg (by simp), if_neg (by simp only; omega)]
    simp only
    rw [show (bitsOf y (8 : Int).toNat).length = 8 from bitsOf_length _ _]
    by_cases hn : ys = []
    · subst hn; simp [zst]
    have h3 : 0 < ys.length := List.length_pos_iff.2 hn
    have hle : p + 8 ≤ B.length := by omega
    rw [ih (p + 8) (out ++ [y]) r (fun x hx => hy x (by simp [hx])) hle hd2 (by rw [List.length_append, List.length_singleton]; omega)]
    simp only [List.append_assoc, List.singleton_append]
    rw [show p + 8 + 8 * ys.length = p + 8 * (ys.length + 1) by omega]

/-- a stored block is read -/
theorem zstored_at {B r pd : List Bool} {most : Int} {p c : Nat} {lb : Bool} {out ys : List Int} (hy : ∀ y ∈ ys, 0 ≤ y ∧ y < 256) (hp : p ≤ B.length) (hys : ys.length < 65536) (hc : c < 65536)
    (hpd : pd.length = 8 * ((p + 3 + 7) / 8) - (p + 3)) (hm : (out.length + ys.length : Int) ≤ most)
    (hd : B.drop p = [lb] ++ ([false, false] ++ (pd ++ (bitsOf (ys.length : Int) 16 ++ (bitsOf (c : Int) 16 ++ (bb ys ++ r)))))) :
    znot2 B (p, out, 0) ∧ (ys.length ^^^ c ≠ 65535 → (zblock B most (p, out, 0)).2.2.2 = 2) ∧
    (ys.length ^^^ c = 65535 → zblock B most (p, out, 0) = (lb, (p + 3 + pd.length + 32 + 8 * ys.length, out ++ ys, 0))) := by
  have l1 := drop_len hd
  have g1 := zget_at (B := B) (out := out) (n := 1) hd rfl (by simp) hp
  have hd2 := drop_more hd
  have l2 := drop_len hd2
  have g2 := zget_at (B := B) (out := out) (n := 2) hd2 rfl (by decide) (by simp only [List.length_cons, List.length_nil] at l1 ⊢; omega)
  have hd3 := drop_more hd2
  have l3 := drop_len hd3
  have hd4 := drop_more hd3
  have l4 := drop_len hd4
  have hd5 := drop_more hd4
  have l5 := drop_len hd5
  have hd6 := drop_more hd5
  simp only [List.length_cons, List.length_nil, bitsOf_length] at l1 l2 l3 l4 l5 hd2 hd3 hd4 hd5 hd6 g1 g2
  have ep : 8 * ((p + 3 + 7) / 8) = p + 3 + pd.length := by omega
  have e16 : (2 : Int) ^ (16 : Int).toNat = 65536 := by decide
  have g3 := zget_at (B := B) (out := out) (n := 16) hd4 (by rw [bitsOf_length]; rfl) (by rw [bitsOf_length]; decide) (by omega)
  have g4 := zget_at (B := B) (out := out) (n := 16) hd5 (by rw [bitsOf_length]; rfl) (by rw [bitsOf_length]; decide) (by omega)
  rw [show (bitsOf (ys.length : Int) 16 : List Bool) = bitsOf (ys.length : Int) (16 : Int).toNat from rfl, val_small (x := 16) (by omega) (by rw [e16]; omega)] at g3
  rw [show (bitsOf (c : Int) 16 : List Bool) = bitsOf (c : Int) (16 : Int).toNat from rfl, val_small (x := 16) (by omega) (by rw [e16]; omega)] at g4
  rw [bitsOf_length] at g3 g4
  have e0 : (16 : Int).toNat = 16 := rfl
  rw [e0] at g3 g4
  have st : zstored B most (p + 3, out, 0) = if ((ys.length ^^^ c : Nat) : Int) ≠ 65535 then zfail 2 (p + 3 + pd.length + 32, out, 0) else zst B most ys.length (p + 3 + pd.length + 32, out, 0) := by
    unfold zstored
    simp only
    rw [ep]
    rw [show p + 1 + 2 + pd.length = p + 3 + pd.length by omega] at g3
    rw [show p + 1 + 2 + pd.length + 16 = p + 3 + pd.length + 16 by omega] at g4
    rw [g3]
    simp only
    rw [g4]
    simp only
    rw [if_neg (by simp), xorV_nat (by omega) (by omega), Int.toNat_natCast]
    split
    · rfl
    · rw [if_neg (by omega)]
  have zb : zblock B most (p, out, 0) = ((val [lb] : Int) == 1, zstored B most (p + 3, out, 0)) := by
    unfold zblock
    simp only [g1]
    rw [g2]
    simp only
    rw [if_neg (by simp), if_pos (by decide)]
  refine ⟨Or.inr ?_, fun hne => ?_, fun he => ?_⟩
  · rw [g1]
    simp only
    rw [g2]
    simp only
    decide
  · rw [zb, st, if_pos (by omega)]
    rfl
  · rw [zb, st, if_neg (by omega)]
    rw [zst_full ys _ _ r hy (by omega) (by rw [show p + 3 + pd.length + 32 = p + 1 + 2 + pd.length + 16 + 16 by omega]; exact hd6) hm]
    cases lb <;> rfl

/-! ### the law -/

theorem sls_at {L : List (Sl × List Int)} {i : Nat} (h : i < L.length) : (sls L)[i]? = some (.slice L[i].1.a L[i].1.len L[i].1.cap) := by simp [sls, h]
/-- a slice out of a slice of slices -/
theorem Rd.lsl {w : World} {s : Sl} {L : List (Sl × List Int)} {i : Int} {K : Sl → Prop} (h : Rd w 1 s (sls L)) (j : Nat) (hi : i = j) (hj : j < L.length) (hk : K L[j].1) : ixS s.a s.len i 1 fun a => ldL w a K := by
  subst hi
  have hl := h.1
  have hl2 : (sls L).length = L.length := by simp [sls]
  refine h.ix (by decide) (by omega) (by omega) fun a ha => ?_
  rw [show ((j : Int)).toNat * 1 = j by omega]
  exact ldL_c (n := L[j].1) (by rw [h.cell ha (by omega)]; exact sls_at hj) hk

/-- bits of blocks that were not the last -/
def SGo (l : List Bool) (want : List Int) : Prop := ∀ B r : List Bool, B = l ++ r → ZGo B 5000 (0, [], 0) (l.length, want, 0)
def SEnd (l : List Bool) (Q : Z → Prop) : Prop := ∀ B r : List Bool, B = l ++ r → ∃ n z', ZRun B 5000 n (0, [], 0) z' ∧ Q z'
theorem SEnd.more {l : List Bool} {Q : Z → Prop} (h : SEnd l Q) (m : List Bool) : SEnd (l ++ m) Q := fun B r e => h B (m ++ r) (by rw [e, List.append_assoc])

def blkBits (l : List Bool) (lb : Bool) (ys : List Int) (c : Nat) : List Bool := [lb] ++ ([false, false] ++ (pad (l ++ [lb] ++ [false, false]) ++ (bitsOf (ys.length : Int) 16 ++ (bitsOf (c : Int) 16 ++ bb ys))))
theorem pad_len (l : List Bool) : (pad l).length = 8 * ((l.length + 7) / 8) - l.length := by
  unfold pad
  rw [List.length_replicate]
  omega

theorem SGo.blk {l : List Bool} {want ys : List Int} {lb : Bool} {c : Nat} (h : SGo l want) (hy : ∀ y ∈ ys, 0 ≤ y ∧ y < 256) (hys : ys.length < 65536) (hc : c < 65536) (hm : want.length + ys.length ≤ 5000) :
    (ys.length ^^^ c ≠ 65535 → SEnd (l ++ blkBits l lb ys c) fun z => z.2.2 = 2) ∧
    (ys.length ^^^ c = 65535 → lb = true → SEnd (l ++ blkBits l lb ys c) fun z => z = ((l ++ blkBits l lb ys c).length, want ++ ys, 0)) ∧
    (ys.length ^^^ c = 65535 → lb = false → SGo (l ++ blkBits l lb ys c) (want ++ ys)) := by
  have hpl : (pad (l ++ [lb] ++ [false, false])).length = 8 * ((l.length + 3 + 7) / 8) - (l.length + 3) := by
    rw [pad_len]
    simp only [List.length_append, List.length_cons, List.length_nil]
  have hlen : (l ++ blkBits l lb ys c).length = l.length + 3 + (pad (l ++ [lb] ++ [false, false])).length + 32 + 8 * ys.length := by
    unfold blkBits
    simp only [List.length_append, List.length_cons, List.length_nil, bitsOf_length, bb_length]
    omega
  have at' : ∀ B r : List Bool, B = l ++ blkBits l lb ys c ++ r → _ := fun B r e =>
    zstored_at (B := B) (r := r) (pd := pad (l ++ [lb] ++ [false, false])) (most := 5000) (p := l.length) (c := c) (lb := lb) (out := want) (ys := ys) hy (by rw [e]; simp only [List.length_append]; omega) hys hc hpl (by omega) (by
      rw [e, List.append_assoc, List.drop_left' rfl]
      unfold blkBits
      simp only [List.append_assoc])
  refine ⟨fun hne B r e => ?_, fun he hl B r e => ?_, fun he hl B r e => ?_⟩
  · obtain ⟨a1, a2, _⟩ := at' B r e
    obtain ⟨m, hr⟩ := (h B (blkBits l lb ys c ++ r) (by rw [e, List.append_assoc])).run (ZRun.bad a1 (by rw [a2 hne]; decide))
    exact ⟨m, _, hr, a2 hne⟩
  · obtain ⟨a1, _, a3⟩ := at' B r e
    have a3 := a3 he
    obtain ⟨m, hr⟩ := (h B (blkBits l lb ys c ++ r) (by rw [e, List.append_assoc])).run (ZRun.last a1 (by rw [a3]) (by rw [a3]; exact hl))
    exact ⟨m, _, hr, by rw [a3, hlen]⟩
  · obtain ⟨a1, _, a3⟩ := at' B r e
    have a3 := a3 he
    have hg := ZGo.step (h B (blkBits l lb ys c ++ r) (by rw [e, List.append_assoc])) a1 (by rw [a3]) (by rw [a3]; exact hl)
    rw [a3] at hg
    rw [hlen]
    exact hg

theorem trovelaw7_InflateStored.law (s : Sl) (bad : Int) (L : List (Sl × List Int)) (W : World) (hr : Rd W 1 s (sls L)) (hL : ∀ y ∈ L, Rd W 1 y.1 (y.2.map (Value.int .u8)) ∧ (∀ n ∈ y.2, (Lit.int .u8 n).wf = true) ∧ y.1.len ≤ y.1.cap) :
    Calls Try.prog 29 ⟨[.slice s.a s.len s.cap, .int .i64 bad]⟩ W fun e w' => e = .returned (.bool true) ∧ Mod [] W w' := by
  refine ret_k (trovelaw7_InflateStored.ok _ _ _ _ ?_)
  unfold trovelaw7_InflateStored trovelaw7_InflateStored.j1
  have hl := hr.1
  rw [show (sls L).length = L.length by simp [sls]] at hl
  have rd : ∀ {w' ps}, St [] W w' ps → Rd w' 1 s (sls L) := fun h => hr.keep h.mod (by simp)
  refine trovelaw7_known.c (St.start0 (w := W)) fun w h => ⟨_, rfl, br_f1 ?_⟩
  refine br_b (fun _ => ⟨rfl, h.mod⟩) fun g0 => ?_
  have g0 : s.len ≠ 0 := by intro e; rw [e] at g0; simp at g0
  refine br_d (fun _ => ⟨rfl, h.mod⟩) fun g1 => ?_
  unfold trovelaw7_InflateStored.j2
  refine h.new fun wb w h => ?_
  have h : St [] W w [rwA wb []] := rwA_i (s := ⟨none, 0, 0⟩) (l := []) (h.nil 1).at1
  unfold trovelaw7_InflateStored.j3 trovelaw7_InflateStored.j8
  refine loop2 (fun (a : Nat × List Bool × List Int) (o : Sl) (i' : Int) w' => i' = a.1 ∧ a.1 ≤ L.length ∧ a.2.2.length ≤ 200 * a.1 ∧ (∀ x ∈ a.2.2, 0 ≤ x ∧ x < 256) ∧ a.2.1.length ≤ 2000 * a.1 ∧
      (¬ (0 ≤ bad ∧ bad < a.1) → a.1 < L.length → SGo a.2.1 a.2.2) ∧ (0 ≤ bad ∧ bad < a.1 → SEnd a.2.1 fun z => z.2.2 = 2) ∧ (¬ (0 ≤ bad ∧ bad < a.1) → a.1 = L.length → SEnd a.2.1 fun z => z = (a.2.1.length, a.2.2, 0)) ∧
      St [] W w' [rwA wb a.2.1, ownA 1 o (u8s a.2.2)]) (fun a => L.length - a.1) (0, [], [])
    ⟨rfl, by simp, by simp, by simp, by simp, fun _ _ B r _ => ZGo.refl _, fun e => by simp only at e; omega, fun _ e => by simp only at e; omega, (h.nil 1).at1⟩ ?_
  clear h
  rintro ⟨i, l, want⟩ o i' wL I μ ⟨rfl, hi, hwl, hwb, hll, hgo, hbad, hdone, h⟩ hin
  simp only at hi hwl hwb hll hgo hbad hdone h hin ⊢
  unfold trovelaw7_InflateStored.b1
  refine br_d (fun g => ?_) (fun g => ?_)
  · have hil : i < L.length := by omega
    obtain ⟨hLr, hLw, _⟩ := hL L[i] (List.getElem_mem hil)
    have hyb : ∀ y ∈ L[i].2, 0 ≤ y ∧ y < 256 := fun y hy => wf_u8 (hLw y hy)
    haveI : ∀ ps, Rdb [] W L[i].1 ps 1 (u8s L[i].2) := fun ps => Rdb.start hLr
    have hLl := hLr.1
    rw [List.length_map] at hLl
    unfold trovelaw7_InflateStored.j9
    refine (rd h).lsl i rfl hil ?_
    refine br_d (fun _ => ⟨rfl, h.mod⟩) fun g2 => ?_
    have hy200 : L[i].2.length ≤ 200 := by omega
    -- the block is written
    have j12 : ∀ lb : Bool, lb = decide (i + 1 = L.length) → trovelaw7_InflateStored.j12 s bad (some ⟨wb, 0, none⟩) o (i : Int) (if lb then 1 else 0) (fun v w' => Ending.returned v = .returned (.bool true) ∧ Mod [] W w')
        (fun d' b' t5' t6' t7' w' => (d' = s ∧ b' = bad ∧ t5' = some ⟨wb, 0, none⟩) ∧ I t6' t7' w' ∧ μ t6' t7' w' < μ o (i : Int) wL) wL := by
      intro lb hlb
      unfold trovelaw7_InflateStored.j12
      refine troveref2_Writer_Put.c h (by omega) fun w h => ⟨rfl, ?_⟩
      refine troveref2_Writer_Put.c h (by have : (pb (if lb = true then 1 else 0) 1).length ≤ 1 := (by cases lb <;> decide)
                                          simp only [List.length_append]; omega) fun w h => ⟨rfl, ?_⟩
      rw [show pb (if lb = true then 1 else 0) 1 = [lb] by cases lb <;> kernel_rfl, show pb 0 2 = [false, false] by kernel_rfl] at h
      unfold trovelaw7_InflateStored.j13
      refine troveref2_Writer_Align.c h (by simp only [List.length_append, List.length_cons, List.length_nil]; omega) fun w h => ⟨rfl, ?_⟩
      have hpl : (pad (l ++ [lb] ++ [false, false])).length ≤ 8 := by rw [pad_len]; omega
      refine (rd h).lsl i rfl hil ?_
      refine troveref2_Writer_Put.c h (by simp only [List.length_append, List.length_cons, List.length_nil]; omega) fun w h => ⟨rfl, ?_⟩
      have el : L[i].1.len = L[i].2.length := by omega
      rw [pb_bits (by decide) (by decide), show (16 : Int).toNat = 16 from rfl, el] at h
      have j15 : ∀ (c : Nat) (w : World), c < 65536 → (bad = (i : Int) → L[i].2.length ^^^ c ≠ 65535) → (bad ≠ (i : Int) → L[i].2.length ^^^ c = 65535) →
          St [] W w [rwA wb (l ++ [lb] ++ [false, false] ++ pad (l ++ [lb] ++ [false, false]) ++ bitsOf (L[i].2.length : Int) 16), ownA 1 o (u8s want)] →
          trovelaw7_InflateStored.j15 s bad (some ⟨wb, 0, none⟩) o (i : Int) (c : Int) (fun v w' => Ending.returned v = .returned (.bool true) ∧ Mod [] W w')
            (fun d' b' t5' t6' t7' w' => (d' = s ∧ b' = bad ∧ t5' = some ⟨wb, 0, none⟩) ∧ I t6' t7' w' ∧ μ t6' t7' w' < μ o (i : Int) wL) w := by
        intro c w hc hc1 hc2 h
        unfold trovelaw7_InflateStored.j15
        refine troveref2_Writer_Put.c h (by simp only [List.length_append, List.length_cons, List.length_nil, bitsOf_length]; omega) fun w h => ⟨rfl, ?_⟩
        rw [pb_bits (by decide) (by decide), show (16 : Int).toNat = 16 from rfl] at h
        unfold trovelaw7_InflateStored.j16 trovelaw7_InflateStored.j18
        refine loop1 (fun (k : Nat) (k' : Int) w' => k' = k ∧ k ≤ L[i].2.length ∧ St [] W w' [rwA wb (l ++ [lb] ++ [false, false] ++ pad (l ++ [lb] ++ [false, false]) ++ bitsOf (L[i].2.length : Int) 16 ++ bitsOf (c : Int) 16 ++ bb (L[i].2.take k)), ownA 1 o (u8s want)]) (fun k => L[i].2.length - k) 0 ⟨rfl, by omega, by simpa [bb] using h⟩ ?_
        clear h
        rintro k k' w3 I3 μ3 ⟨rfl, hk, h⟩ hin3
        unfold trovelaw7_InflateStored.b2
        refine (rd h).lsl i rfl hil ?_
        refine br_d (fun g3 => ?_) (fun g3 => ?_)
        · have hk2 : k < L[i].2.length := by omega
          refine (rd h).lsl i rfl hil ?_
          refine h.lx (s := L[i].1) k rfl hk2 ?_
          have hyk : 0 ≤ L[i].2.getD k 0 ∧ L[i].2.getD k 0 < 256 := by
            rw [List.getD, List.getElem?_eq_getElem hk2]
            exact hyb _ (List.getElem_mem hk2)
          refine lt_as (wrap_i64 (by omega) (by omega)) ?_
          have hbl : (bb (L[i].2.take k)).length ≤ 1600 := by rw [bb_length, List.length_take]; omega
          refine troveref2_Writer_Put.c h (by simp only [List.length_append, List.length_cons, List.length_nil, bitsOf_length]; omega) fun w h => ⟨rfl, ?_⟩
          rw [pb_bits (by decide) (by decide), show (8 : Int).toNat = 8 from rfl, List.append_assoc _ (bb _), ← bb_snoc, ← take_next hk2] at h
          refine lt_as (wrap_i64 (by omega) (by omega)) ?_
          exact ⟨⟨rfl, rfl, rfl, rfl, rfl⟩, hin3 (k + 1) _ _ ⟨by omega, by omega, h⟩ (by omega)⟩
        · have : k = L[i].2.length := by omega
          subst this
          rw [List.take_length] at h
          unfold trovelaw7_InflateStored.j17
          refine (rd h).lsl i rfl hil ?_
          refine h.appI (s := o) (s2 := L[i].1) (by omega) fun o2 w h => ?_
          unfold trovelaw7_InflateStored.j10
          refine lt_as (wrap_i64 (by omega) (by omega)) ?_
          have ebb : l ++ [lb] ++ [false, false] ++ pad (l ++ [lb] ++ [false, false]) ++ bitsOf (L[i].2.length : Int) 16 ++ bitsOf (c : Int) 16 ++ bb L[i].2 = l ++ blkBits l lb L[i].2 c := by
            unfold blkBits
            simp only [List.append_assoc]
          rw [ebb] at h
          have hbk : (blkBits l lb L[i].2 c).length ≤ 2000 := by
            unfold blkBits
            simp only [List.length_append, List.length_cons, List.length_nil, bitsOf_length, bb_length]
            omega
          refine ⟨⟨rfl, rfl, rfl⟩, hin (i + 1, l ++ blkBits l lb L[i].2 c, want ++ L[i].2) _ _ _ ⟨by simp, by simp only; omega, by simp only [List.length_append]; omega, ?_, by simp only [List.length_append]; omega, ?_, ?_, ?_, h.sub⟩ (by simp only; omega)⟩
          · intro x hx
            rcases List.mem_append.1 hx with hx | hx
            · exact hwb x hx
            · exact hyb x hx
          · intro e1 e2
            simp only at e1 e2
            refine ((hgo (by omega) hil).blk hyb (by omega) hc (by omega)).2.2 (hc2 (by omega)) ?_
            rw [hlb]
            exact decide_eq_false (by omega)
          · intro e1
            simp only at e1
            by_cases e3 : bad < (i : Int)
            · exact (hbad ⟨e1.1, e3⟩).more _
            · exact ((hgo (by omega) hil).blk hyb (by omega) hc (by omega)).1 (hc1 (by omega))
          · intro e1 e2
            simp only at e1 e2
            refine ((hgo (by omega) hil).blk hyb (by omega) hc (by omega)).2.1 (hc2 (by omega)) ?_
            rw [hlb]
            exact decide_eq_true e2
      unfold trovelaw7_InflateStored.j14
      refine (rd h).lsl i rfl hil ?_
      have hx16 := xor_good (a := L[i].2.length) (by omega)
      have hx16b := xor_bad (a := L[i].2.length) (by omega)
      refine lt_as (show xorV .i64 65535 ((L[i].1.len : Nat) : Int) = ((65535 ^^^ L[i].2.length : Nat) : Int) by rw [el]; exact xorV_nat (a := 65535) (by decide) (by omega)) ?_
      refine br_b (fun g3 => ?_) (fun g3 => ?_)
      · have g3 : (i : Int) = bad := by simpa using g3
        refine lt_as (show xorV .i64 ((65535 ^^^ L[i].2.length : Nat) : Int) 1 = (((65535 ^^^ L[i].2.length) ^^^ 1 : Nat) : Int) from xorV_nat (b := 1) (by omega) (by decide)) ?_
        exact j15 _ w hx16b.1 (fun _ => hx16b.2) (fun e => absurd g3.symm e) h
      · have g3 : ¬ (i : Int) = bad := by simpa using g3
        exact j15 _ w hx16.1 (fun e => absurd e.symm g3) (fun _ => hx16.2) h
    unfold trovelaw7_InflateStored.j11
    refine lt_as (wrap_i64 (by omega) (by omega)) ?_
    refine br_b (fun g3 => ?_) (fun g3 => ?_)
    · have g3 : (i : Int) = ((s.len : Nat) : Int) - 1 := by simpa using g3
      exact j12 true (decide_eq_true (by omega)).symm
    · have g3 : ¬ (i : Int) = ((s.len : Nat) : Int) - 1 := by simpa using g3
      exact j12 false (decide_eq_false (by omega)).symm
  · have : i = L.length := by omega
    subst this
    unfold trovelaw7_InflateStored.j4
    refine troveref2_Writer_Done.c h (by omega) fun s1 w h1 _ h => ⟨s1, rfl, ?_⟩
    have h : St [] W w [rdA 1 s1 (u8s (byt (val l) ((l.length + 7) / 8))), rwA wb l, ownA 1 o (u8s want)] := h
    have hB := fx_B l
    by_cases hb : 0 ≤ bad ∧ bad < (L.length : Int)
    · obtain ⟨n, z', hrun, hz⟩ := hbad hb _ _ hB
      refine inflate_Inflate.c (s := s1) h (by omega) (by decide) (by decide) hrun (fun t w he _ _ => absurd he (by rw [hz]; decide)) (fun w he h => ⟨⟨none, 0, 0⟩, _, _, rfl, ?_⟩)
      unfold trovelaw7_InflateStored.j5 trovelaw7_InflateStored.j7
      rw [hz]
      refine br_is (decide_eq_true hb.1) (br_is (decide_eq_true (by omega)) (br_is rfl ⟨rfl, h.mod⟩))
    · obtain ⟨n, z', hrun, hz⟩ := hdone hb rfl _ _ hB
      subst hz
      refine inflate_Inflate.c (s := s1) h (by omega) (by decide) (by decide) hrun (fun t w _ _ h => ⟨t, _, _, rfl, ?_⟩) (fun w he _ => absurd rfl he)
      have j6 : trovelaw7_InflateStored.j6 (some ⟨wb, 0, none⟩) o t (((l.length + 7) / 8 : Nat) : Int) 0 (fun v w' => Ending.returned v = .returned (.bool true) ∧ Mod [] W w') w := by
        unfold trovelaw7_InflateStored.j6
        refine br_is rfl ?_
        refine h.bt (s := t) (xs := want) hwb ?_
        refine h.bt (s := o) (xs := want) hwb ?_
        refine br_is (by simp) ?_
        have h2 : St [] W w [rwA wb l] := h.sub
        refine troveref2_Writer_Done.c h2 (by omega) fun s2 w h3 _ h => ⟨s2, rfl, ?_⟩
        refine ⟨?_, h.mod⟩
        rw [h3]
        simp
      unfold trovelaw7_InflateStored.j5 trovelaw7_InflateStored.j7
      refine br_d (fun g3 => br_no (decide_eq_false (by omega)) j6) (fun g3 => br_f1 j6)

end Go.Proofs.Ytkajimndclhgaaa
