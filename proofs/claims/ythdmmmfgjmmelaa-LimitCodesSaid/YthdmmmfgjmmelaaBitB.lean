/- The writer of bits: its methods, over rows of bits. Own work. -/
import Derived.Test.YthdmmmfgjmmelaaRd
namespace Go.Proofs.Ythdmmmfgjmmelaa
open Go Go.Proofs
set_option linter.unusedVariables false
set_option linter.unusedSimpArgs false
attribute [local irreducible] apK cpK mkK

theorem orV_comm (k : IntKind) (a b : Int) : orV k a b = orV k b a := by unfold orV; rw [BitVec.or_comm]
theorem orV_add' (k : IntKind) {a b : Nat} {t : Nat} (ha : a < 2 ^ t) (hs : a + b * 2 ^ t < 2 ^ (k.bits - 1)) : orV k ((b : Int) * 2 ^ t) (a : Int) = (a : Int) + (b : Int) * 2 ^ t := by
  rw [orV_comm, orV_add k ha hs]
theorem andV_one (k : IntKind) (x : Int) : andV k x 1 = x % 2 := by
  have h := andV_mod k x (t := 1) (Nat.lt_of_lt_of_le (by decide) (bits_pos k))
  simpa using h

section
variable {F0 : List Nat} {w0 w : World} {ps : List As}

theorem St.nil (sz : Nat) (h : St F0 w0 w ps) : St F0 w0 w (ownA sz ⟨none, 0, 0⟩ [] :: ps) :=
  h.add (f' := []) (Mod.refl _ _) (Or.inl ⟨rfl, rfl, rfl⟩) (Gr.refl _ _)

/-- a writer of the bits l -/
def wrL (wb : Nat) (l : List Bool) : As := wrA wb l.length (val l)

theorem wrL_o {wb : Nat} {l : List Bool} (h : St F0 w0 w (wrL wb l :: ps)) : ∃ s : Sl, St F0 w0 w (blkA wb [.slice s.a s.len s.cap, .int .u64 ((val l / 2 ^ (8 * (l.length / 8)) : Nat) : Int), .int .i64 ((l.length - 8 * (l.length / 8) : Nat) : Int)] :: ownA 1 s (u8s (byt (val l) (l.length / 8))) :: ps) := by
  obtain ⟨s, h⟩ := h.exE
  obtain ⟨_, h⟩ := h.ifE
  exact ⟨s, h.split⟩

theorem wrL_i {wb : Nat} {l : List Bool} {s : Sl} (h : St F0 w0 w (blkA wb [.slice s.a s.len s.cap, .int .u64 ((val l / 2 ^ (8 * (l.length / 8)) : Nat) : Int), .int .i64 ((l.length - 8 * (l.length / 8) : Nat) : Int)] :: ownA 1 s (u8s (byt (val l) (l.length / 8))) :: ps)) : St F0 w0 w (wrL wb l :: ps) :=
  (h.join.ifI (c := 8 * (l.length / 8) ≤ l.length ∧ val l < 2 ^ l.length) ⟨by omega, val_lt l⟩).exI (p := fun s : Sl => ifA (8 * (l.length / 8) ≤ l.length ∧ val l < 2 ^ l.length) <| andA
  (blkA wb [.slice s.a s.len s.cap, .int .u64 ((val l / 2 ^ (8 * (l.length / 8)) : Nat) : Int), .int .i64 ((l.length - 8 * (l.length / 8) : Nat) : Int)]) (ownA 1 s (u8s (byt (val l) (l.length / 8))))) s

theorem bits_NewWriter.c {K : Ending → World → Prop} (h : St F0 w0 w ps)
    (hk : ∀ wb w', St F0 w0 w' (wrL wb [] :: ps) → K (.returned (.pointer (some ⟨wb, 0, none⟩))) w') : Calls Try.prog 18 ⟨[]⟩ w K := by
  refine ret_k (bits_NewWriter.ok _ _ ?_)
  unfold bits_NewWriter
  refine (h.nil 1).new fun nb w h => ?_
  refine hk nb w ?_
  exact wrL_i (s := ⟨none, 0, 0⟩) (l := []) h

theorem bits_Writer_Put.cl {wb : Nat} {l : List Bool} {v n : Int} {K : Ending → World → Prop} (h : St F0 w0 w (wrL wb l :: ps)) (hL : l.length ≤ 549755813888)
    (hk : ∀ w', St F0 w0 w' (wrL wb (l ++ pb v n) :: ps) → K (.returned (.tuple ⟨[]⟩)) w') : Calls Try.prog 91 ⟨[.pointer (some ⟨wb, 0, none⟩), .int .i64 v, .int .i64 n]⟩ w K := by
  refine bits_Writer_Put.c h hL fun w h => hk w ?_
  rw [putL_pb l v n, putV_pb] at h
  exact h

/-! ### Turn -/

theorem turnN_lt : ∀ (t : Nat) (v : Int) (out k : Nat), out < 2 ^ k → turnN t v out < 2 ^ (k + t)
  | 0, v, out, k, h => h
  | t + 1, v, out, k, h => by
    rw [turnN, show k + (t + 1) = (k + 1) + t by omega]
    refine turnN_lt t _ _ _ ?_
    rw [Nat.pow_succ]
    omega

theorem turn_step {out : Nat} {v : Int} {i : Nat} (ho : out < 2 ^ i) (hi : i < 24) : orV .i64 (shlV .i64 (out : Int) 1) (andV .i64 v 1) = ((2 * out + (v % 2).toNat : Nat) : Int) := by
  have hb : out < 2 ^ 24 := Nat.lt_of_lt_of_le ho (Nat.pow_le_pow_right (by decide) (by omega))
  rw [andV_one, shlV_lit .i64 (x := (out : Int)) (y := 1) (t := 1) rfl (by decide) (by omega) (by
    show (out : Int) * 2 ^ 1 < 2 ^ 63
    omega)]
  have e : v % 2 = ((v % 2).toNat : Int) := by omega
  have h2 : (v % 2).toNat < 2 := by omega
  rw [e, orV_add' .i64 (t := 1) (by omega) (by
    show _ < 2 ^ 63
    omega)]
  omega

theorem bits_Turn.loop {v : Int} {n out i : Nat} {Q : Value → World → Prop} (hi : i ≤ n) (hn : n ≤ 24) (ho : out < 2 ^ i) (hq : Q (.int .i64 (turnN (n - i) v out : Nat)) w) : bits_Turn.l1 n v out i Q w := by
  refine loop3 (fun (a : Nat × Nat) v' (out' : Int) (i' : Int) w' => out' = a.1 ∧ i' = a.2 ∧ a.2 ≤ n ∧ a.1 < 2 ^ a.2 ∧ turnN (n - a.2) v' a.1 = turnN (n - i) v out ∧ w' = w) (fun a => n - a.2) (out, i) ⟨rfl, rfl, hi, ho, rfl, rfl⟩ ?_
  rintro ⟨o, i⟩ v' out' i' w' I μ ⟨rfl, rfl, h1, h2, h3, rfl⟩ hin
  simp only at h1 h2 h3 hin ⊢
  unfold bits_Turn.b1
  refine br_d (fun h => ?_) (fun h => ?_)
  · refine ⟨by omega, ?_⟩
    refine lt_i (lt_i ?_)
    refine lt_as (turn_step h2 (by omega)) ?_
    refine ⟨by omega, ?_⟩
    refine lt_as (shrV_nat .i64 _ (t := 1) (by decide)) ?_
    refine lt_as (wrap_i64 (by omega) (by omega)) ?_
    refine ⟨rfl, hin (2 * o + (v' % 2).toNat, i + 1) _ _ _ _ ⟨rfl, by simp, by simp only; omega, by simp only; rw [Nat.pow_succ]; omega, ?_, rfl⟩ (by simp only; omega)⟩
    simp only
    rw [← h3, show n - i = (n - (i + 1)) + 1 by omega, turnN]
    rfl
  · have : i = n := by omega
    subst this
    unfold bits_Turn.j3
    rw [Nat.sub_self, turnN] at h3
    rw [h3]; exact hq

theorem bits_Turn.c {v n : Int} {K : Ending → World → Prop} (hk : K (.returned (.int .i64 (turn v n))) w) : Calls Try.prog 92 ⟨[.int .i64 v, .int .i64 n]⟩ w K := by
  refine ret_k (bits_Turn.ok _ _ _ _ ?_)
  unfold bits_Turn bits_Turn.j1
  refine br_d (fun h1 => ?_) (fun h1 => ?_)
  · rwa [turn, if_neg (by omega)] at hk
  refine br_d (fun h2 => ?_) (fun h2 => ?_)
  · rwa [turn, if_neg (by omega)] at hk
  rw [turn, if_pos (by omega)] at hk
  obtain ⟨t, rfl⟩ : ∃ t : Nat, n = t := ⟨n.toNat, by omega⟩
  exact bits_Turn.loop (i := 0) (out := 0) (by omega) (by omega) (by decide) hk

theorem bits_Writer_Code.c {wb : Nat} {l : List Bool} {v n : Int} {K : Ending → World → Prop} (h : St F0 w0 w (wrL wb l :: ps)) (hL : l.length ≤ 549755813888)
    (hk : ∀ w', St F0 w0 w' (wrL wb (l ++ (pb v n).reverse) :: ps) → K (.returned (.tuple ⟨[]⟩)) w') : Calls Try.prog 49 ⟨[.pointer (some ⟨wb, 0, none⟩), .int .i64 v, .int .i64 n]⟩ w K := by
  refine ret_k (bits_Writer_Code.ok _ _ _ _ _ ?_)
  unfold bits_Writer_Code
  refine bits_Turn.c ⟨_, rfl, ?_⟩
  refine bits_Writer_Put.cl h hL fun w h => ⟨rfl, ?_⟩
  rw [pb_turn] at h
  exact hk w h

/-! ### Align, Byte, Len, Done -/

def pad (l : List Bool) : List Bool := List.replicate ((8 - l.length % 8) % 8) false

theorem pb_no (n : Nat) (h : n ≤ 24) : pb 0 n = List.replicate n false := by
  unfold pb
  rw [if_pos (by omega), Int.toNat_natCast]
  apply List.ext_getElem
  · simp [bitsOf]
  · intro i h1 h2
    simp [bitsOf, bt]

theorem bits_Writer_Align.c {wb : Nat} {l : List Bool} {K : Ending → World → Prop} (h : St F0 w0 w (wrL wb l :: ps)) (hL : l.length ≤ 549755813888)
    (hk : ∀ w', St F0 w0 w' (wrL wb (l ++ pad l) :: ps) → K (.returned (.tuple ⟨[]⟩)) w') : Calls Try.prog 124 ⟨[.pointer (some ⟨wb, 0, none⟩)]⟩ w K := by
  refine ret_k (bits_Writer_Align.ok _ _ _ ?_)
  unfold bits_Writer_Align
  obtain ⟨s, h⟩ := wrL_o h
  refine nz_i (h.blk.ldI (o := 2) rfl ?_)
  refine br_d (fun h1 => ?_) (fun h1 => ?_)
  · refine nz_i (h.blk.ldI (o := 2) rfl ?_)
    refine lt_as (wrap_i64 (by omega) (by omega)) ?_
    have e : (8 : Int) - ((l.length - 8 * (l.length / 8) : Nat) : Int) = ((8 - l.length % 8 : Nat) : Int) := by omega
    rw [e]
    refine bits_Writer_Put.cl (wrL_i h) hL fun w h => ⟨rfl, hk w ?_⟩
    rw [pb_no _ (by omega)] at h
    unfold pad
    rwa [Nat.mod_eq_of_lt (by omega)]
  · have : (8 - l.length % 8) % 8 = 0 := by omega
    refine hk w ?_
    unfold pad
    rw [this]
    simpa using wrL_i h

theorem bits_Writer_Len.c {wb : Nat} {l : List Bool} {K : Ending → World → Prop} (h : St F0 w0 w (wrL wb l :: ps)) (hL : l.length ≤ 549755813888)
    (hk : ∀ w', St F0 w0 w' (wrL wb l :: ps) → K (.returned (.int .i64 l.length)) w') : Calls Try.prog 20 ⟨[.pointer (some ⟨wb, 0, none⟩)]⟩ w K := by
  refine ret_k (bits_Writer_Len.ok _ _ _ ?_)
  unfold bits_Writer_Len
  refine h.drewK fun w h => ?_
  obtain ⟨s, h⟩ := wrL_o h
  refine nz_i (h.blk.ldL (o := 0) rfl ?_)
  have hl := h.at1.len
  rw [u8s_length, byt_length] at hl
  refine lt_as (wrap_i64 (by omega) (by omega)) ?_
  refine nz_i (h.blk.ldI (o := 2) rfl ?_)
  refine lt_as (wrap_i64 (by omega) (by omega)) ?_
  have e : 8 * (s.len : Int) + ((l.length - 8 * (l.length / 8) : Nat) : Int) = (l.length : Int) := by omega
  rw [e]
  exact hk w (wrL_i h)

theorem bits_Writer_Byte.c {wb : Nat} {l : List Bool} {v : Int} {K : Ending → World → Prop} (h : St F0 w0 w (wrL wb l :: ps)) (hL : l.length ≤ 274877906944) (hv : 0 ≤ v ∧ v < 256)
    (hk : ∀ w', St F0 w0 w' (wrL wb (l ++ pad l ++ bitsOf v 8) :: ps) → K (.returned (.tuple ⟨[]⟩)) w') : Calls Try.prog 125 ⟨[.pointer (some ⟨wb, 0, none⟩), .int .u8 v]⟩ w K := by
  refine ret_k (bits_Writer_Byte.ok _ _ _ _ ?_)
  unfold bits_Writer_Byte
  refine bits_Writer_Align.c h (by omega) fun w h => ⟨rfl, ?_⟩
  have hm : (l ++ pad l).length % 8 = 0 := by
    rw [List.length_append, pad, List.length_replicate]; omega
  have hle : (l ++ pad l).length ≤ l.length + 8 := by
    rw [List.length_append, pad, List.length_replicate]; omega
  generalize l ++ pad l = l' at h hm hle hk
  obtain ⟨s, h⟩ := wrL_o h
  refine nz_i (h.blk.ldL (o := 0) rfl ?_)
  refine h.new fun nb w h => ?_
  refine h.rdB rfl ?_
  have h := h.drop.at1
  refine h.append_u8 (by rw [byt_length]; omega) rfl fun s3 w h => ?_
  have h := h.at1
  refine nz_i (h.st (o := 0) (by simp) trivial fun w h => ?_)
  refine hk w ?_
  have hV := val_lt l'
  have e0 : 8 * (l'.length / 8) = l'.length := by omega
  have e1 : (l' ++ bitsOf v 8).length / 8 = l'.length / 8 + 1 := by rw [List.length_append, bitsOf_length]; omega
  have hw := val_lt (bitsOf v 8)
  have hw2 := val_bitsOf v 8
  rw [bitsOf_length] at hw
  refine wrL_i (s := s3) ?_
  have ev : val (l' ++ bitsOf v 8) = val l' + 2 ^ l'.length * val (bitsOf v 8) := val_append _ _
  have c1 : val (l' ++ bitsOf v 8) / 2 ^ (8 * ((l' ++ bitsOf v 8).length / 8)) = 0 := by
    have := val_lt (l' ++ bitsOf v 8)
    rw [e1, show 8 * (l'.length / 8 + 1) = (l' ++ bitsOf v 8).length by rw [List.length_append, bitsOf_length]; omega]
    exact Nat.div_eq_of_lt this
  have c2 : (l' ++ bitsOf v 8).length - 8 * ((l' ++ bitsOf v 8).length / 8) = 0 := by
    rw [e1, List.length_append, bitsOf_length]; omega
  have c3 : byt (val (l' ++ bitsOf v 8)) ((l' ++ bitsOf v 8).length / 8) = byt (val l') (l'.length / 8) ++ [v] := by
    rw [e1, byt_succ, ev, byt_above _ _ _ _ (by omega)]
    congr 2
    rw [e0, Nat.add_mul_div_left _ _ (Nat.pow_pos (by decide)), Nat.div_eq_of_lt hV]
    omega
  rw [c1, c2, c3]
  have d1 : val l' / 2 ^ (8 * (l'.length / 8)) = 0 := by rw [e0]; exact Nat.div_eq_of_lt hV
  have d2 : l'.length - 8 * (l'.length / 8) = 0 := by omega
  rw [d1, d2] at h
  exact h

/-- a byte slice cloned: its own -/
theorem slices_Clone_byte.c {s : Sl} {xs : List Int} {K : Ending → World → Prop} (h : St F0 w0 w ps) (hr : Rd w 1 s (u8s xs)) (hlen : xs.length ≤ 35184372088832)
    (hk : ∀ s' w', St F0 w0 w' (ownA 1 s' (u8s xs) :: ps) → K (.returned (.slice s'.a s'.len s'.cap)) w') : Calls Try.prog 50 ⟨[.slice s.a s.len s.cap]⟩ w K := by
  refine ret_k (slices_Clone_byte.ok _ _ _ ?_)
  unfold slices_Clone_byte
  have hl := hr.1
  rw [u8s_length] at hl
  refine br_b (fun h1 => ?_) (fun h1 => ?_)
  · have hx : xs = [] := by
      cases xs with
      | nil => rfl
      | cons x xs =>
        obtain ⟨a, ha, _⟩ := hr.2 0 (by simp [u8s])
        rw [ha] at h1; cases h1
    subst hx
    exact hk ⟨none, 0, 0⟩ w (h.nil 1)
  · refine h.newM fun nb w1 hm h => ?_
    have hr1 := hr.keep hm (by simp)
    refine hr1.rdO (by rw [hr1.1]) ?_
    have h1 : (Try.t5).size = 1 := rfl
    have h2 : (Try.t5).bytes = 1 := rfl
    have h4 : (zc Try.prog 5).size = 1 := by rw [zc_u8]; rfl
    have h5 : (Try.t5).bytes ≠ 0 := by rw [h2]; decide
    have h : St F0 w0 w1 (ownA 1 ⟨some ⟨nb, 0, none⟩, 0, 0⟩ [] :: ps) := by
      refine h.mp ?_
      rintro F ⟨hb, rfl⟩
      exact Or.inr ⟨nb, [], rfl, hb, rfl, rfl, rfl⟩
    refine St.append (i := Try.t5) (sz := 1) (m := s.len) (s := ⟨some ⟨nb, 0, none⟩, 0, 0⟩) info_u8 h1 (by decide) h4 h5 (by rw [h2]; show (2 * (0 + s.len) + 1024) * 1 ≤ _; omega) h (by
      show (u8s xs).length = _
      exact hr.1) (by
      intro v hv
      have hv : v ∈ u8s xs := by simpa using hv
      obtain ⟨n, _, rfl⟩ := List.mem_map.1 hv
      trivial) fun s' w' h _ => hk s' w' h

/-- what a writer's bytes are -/
def bytes (l : List Bool) : List Int := byt (val l) ((l.length + 7) / 8)

theorem slices_Clip_byte.c {s : Sl} {cs : List Value} {K : Ending → World → Prop} (h : St F0 w0 w (rdA 1 s cs :: ps)) (hc : s.len ≤ s.cap)
    (hk : ∀ s' : Sl, s'.len = s.len → s'.cap = s.len → St F0 w0 w (rdA 1 s' cs :: ps) → K (.returned (.slice s'.a s'.len s'.cap)) w) : Calls Try.prog 51 ⟨[.slice s.a s.len s.cap]⟩ w K := by
  refine ret_k (slices_Clip_byte.ok _ _ _ ?_)
  unfold slices_Clip_byte
  refine ⟨⟨by omega, by omega⟩, ⟨by omega, by omega⟩, lt_i ?_⟩
  refine hk ⟨_, _, _⟩ (by simp) (by simp) (h.recap ?_ (by simp))
  show cutA s.a _ 0 1 = s.a
  unfold cutA
  split
  · rfl
  · cases s.a with
    | none => rfl
    | some a => simp [Addr.add]

theorem St.cap {sz : Nat} {s : Sl} {cs : List Value} (hsz : 0 < sz) (h : St F0 w0 w (ownA sz s cs :: ps)) : s.len ≤ s.cap := by
  obtain ⟨F, ho⟩ := h.own
  rcases ho with ⟨rfl, _, _⟩ | ⟨ob, rest, _, _, h2, h3, _⟩
  · exact Nat.le_refl 0
  · rw [List.length_append] at h3
    have : s.len * sz ≤ s.cap * sz := by omega
    exact Nat.le_of_mul_le_mul_right this hsz

theorem bits_Writer_Done.c {wb : Nat} {l : List Bool} {K : Ending → World → Prop} (h : St F0 w0 w (wrL wb l :: ps)) (hL : l.length ≤ 274877906944)
    (hk : ∀ s w', s.len = (l.length + 7) / 8 → s.cap = s.len → St F0 w0 w' (rdA 1 s (u8s (bytes l)) :: wrL wb l :: ps) → K (.returned (.slice s.a s.len s.cap)) w') : Calls Try.prog 22 ⟨[.pointer (some ⟨wb, 0, none⟩)]⟩ w K := by
  refine ret_k (bits_Writer_Done.ok _ _ _ ?_)
  unfold bits_Writer_Done
  obtain ⟨s, h⟩ := wrL_o h
  refine nz_i (h.blk.ldL (o := 0) rfl ?_)
  refine slices_Clone_byte.c h h.at1.ord (by rw [byt_length]; omega) fun s1 w h => ⟨s1, rfl, ?_⟩
  refine nz_i (h.blk1.ldI (o := 2) rfl ?_)
  refine br_d (fun h1 => ?_) (fun h1 => ?_)
  · refine nz_i (h.blk1.ldI (o := 1) rfl ?_)
    refine lt_as (wrap_u8 _) ?_
    refine h.new fun nb w h => ?_
    refine h.rdB rfl ?_
    have h := h.drop
    refine h.append_u8 (by rw [byt_length]; omega) rfl fun s2 w h => ?_
    have e : bytes l = byt (val l) (l.length / 8) ++ [((val l / 2 ^ (8 * (l.length / 8)) : Nat) : Int) % 256] := by
      unfold bytes
      rw [show (l.length + 7) / 8 = l.length / 8 + 1 by omega, byt_succ]
      congr 1
    rw [← e] at h
    have hcap := h.cap (by decide)
    have hlen := h.len
    rw [u8s_length, bytes, byt_length] at hlen
    have h := h.ro
    refine slices_Clip_byte.c h hcap fun s3 hs1 hs2 h => ⟨s3, rfl, hk s3 w (by omega) (by omega) ?_⟩
    exact h.tail fun _ _ _ h => wrL_i h
  · have e : bytes l = byt (val l) (l.length / 8) := by
      unfold bytes
      rw [show (l.length + 7) / 8 = l.length / 8 by omega]
    have hcap := h.cap (by decide)
    rw [← e] at h
    have hlen := h.len
    rw [u8s_length, bytes, byt_length] at hlen
    have h := h.ro
    refine slices_Clip_byte.c h hcap fun s3 hs1 hs2 h => ⟨s3, rfl, hk s3 w (by omega) (by omega) ?_⟩
    rw [e] at h ⊢
    exact h.tail fun _ _ _ h => wrL_i h

end

end Go.Proofs.Ythdmmmfgjmmelaa
