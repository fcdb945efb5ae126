/- The laws on DEFLATE: tables, made blocks, far copies. Own work. -/
import Derived.Test.YtkajimndclhgaaaInfX
namespace Go.Proofs.Ytkajimndclhgaaa
open Go Go.Proofs
set_option linter.unusedVariables false
set_option linter.unusedSimpArgs false
attribute [local irreducible] apK cpK mkK br

instance elt_part : ElT Try.prog 140 := ⟨⟨Try.t140, by kernel_rfl, rfl, by decide, by decide⟩, by kernel_rfl⟩

theorem trovelaw7_InflateTables.law (n : Int) (W : World) : Calls Try.prog 27 ⟨[.int .i64 n]⟩ W fun e w' => e = .returned (.bool true) ∧ Mod [] W w' := by
  refine ret_k (trovelaw7_InflateTables.ok _ _ _ ?_)
  unfold trovelaw7_InflateTables trovelaw7_InflateTables.j1
  refine trovelaw7_known.c (St.start0 (w := W)) fun w h => ⟨_, rfl, br_f1 ?_⟩
  refine inflate_Fixed.c h fun a b w ha hb h => ⟨a, b, rfl, ?_⟩
  unfold trovelaw7_InflateTables.j2
  refine troveref7_Fixed.c h fun c d w hc hd h => ⟨c, d, rfl, ?_⟩
  refine br_no (by simp [ha, hc]) (br_no (by simp [hb, hd]) ?_)
  unfold trovelaw7_InflateTables.j3 trovelaw7_InflateTables.j5
  refine loop1 (fun (i : Nat) (i' : Int) w' => i' = i ∧ i ≤ 288 ∧ St [] W w' [ownA 1 d (ivs .i64 fdist), ownA 1 c (ivs .i64 flit), rdA 1 a (ivs .i64 flit), rdA 1 b (ivs .i64 fdist)]) (fun i => 288 - i) 0 ⟨rfl, by omega, h⟩ ?_
  clear h
  rintro i i' wL I μ ⟨rfl, hi, h⟩ hin
  unfold trovelaw7_InflateTables.b1
  refine br_d (fun g => ?_) (fun g => ?_)
  · have hi2 : i < 288 := by omega
    refine h.drewK fun w h => ?_
    refine h.lx (s := a) i rfl (by rw [flit_length]; exact hi2) ?_
    refine h.lx (s := c) i rfl (by rw [flit_length]; exact hi2) ?_
    refine br_no (by simp) ?_
    have next : lt (IntKind.i64.wrap ((i : Int) + 1)) fun x => ((n = n ∧ a = a ∧ b = b ∧ c = c ∧ d = d) ∧ I x w ∧ μ x w < μ (i : Int) wL) := by
      refine lt_as (wrap_i64 (by omega) (by omega)) ?_
      exact ⟨⟨rfl, rfl, rfl, rfl, rfl⟩, hin (i + 1) _ _ ⟨by omega, by omega, h⟩ (by omega)⟩
    refine br_d (fun g2 => ?_) (fun g2 => next)
    refine h.lx (s := b) i rfl (by rw [fdist_length]; omega) ?_
    refine h.lx (s := d) i rfl (by rw [fdist_length]; omega) ?_
    exact br_no (by simp) next
  · unfold trovelaw7_InflateTables.j4
    refine inflate_Length.c h ⟨_, _, _, rfl, ?_⟩
    refine troveref7_Length.c h fun w h => ⟨_, _, _, rfl, ?_⟩
    refine inflate_Distance.c h ⟨_, _, _, rfl, ?_⟩
    refine troveref7_Distance.c h fun w h => ⟨_, _, _, rfl, ?_⟩
    refine br_is (by simp) (br_is (by simp) (br_is (by simp) (br_is (by simp) (br_is (by simp) ?_))))
    exact ⟨by simp, h.mod⟩

/-! ### runs -/

section
variable {most : Int} {bits : List Bool} {out : List Int}

theorem fx_head {B r : List Bool} (h : B = [true] ++ ([true, false] ++ r)) : znot2 B (0, [], 0) ∧ zblock B most (0, [], 0) = (true, zcoded flit fdist B most (B.length + 1) (3, [], 0)) := by
  have hd : B.drop 0 = [true] ++ ([true, false] ++ r) := h
  have g1 := zget_at (B := B) (out := []) (n := 1) hd rfl (by decide) (Nat.zero_le _)
  have l1 := drop_len hd
  have hd2 : B.drop 1 = [true, false] ++ r := drop_more hd
  have g2 := zget_at (B := B) (out := []) (n := 2) hd2 rfl (by decide) (by simp at l1; omega)
  refine ⟨Or.inr ?_, ?_⟩
  · rw [g1]
    show (zget B 2 (1, [], 0)).1 ≠ 2
    rw [g2]; decide
  · unfold zblock
    simp only [g1]
    rw [show (0 + [true].length : Nat) = 1 from rfl, g2]
    simp only
    rw [if_neg (by simp), if_neg (by decide), if_pos (by decide), zblk_fixed]
    rfl

theorem fx_B (l : List Bool) : bitsOf ((val l : Nat) : Int) (8 * ((l.length + 7) / 8)) = l ++ List.replicate (8 * ((l.length + 7) / 8) - l.length) false := bitsOf_ext l (by omega)

theorem fx_good (h : Fx bits out) (hm : (out.length : Int) ≤ most) : znot2 (bitsOf ((val (fxAll bits) : Nat) : Int) (8 * (((fxAll bits).length + 7) / 8))) (0, [], 0) ∧
    zblock (bitsOf ((val (fxAll bits) : Nat) : Int) (8 * (((fxAll bits).length + 7) / 8))) most (0, [], 0) = (true, (3 + bits.length + 7, out, 0)) := by
  have hB := fx_B (fxAll bits)
  generalize bitsOf ((val (fxAll bits) : Nat) : Int) (8 * (((fxAll bits).length + 7) / 8)) = B at hB ⊢
  generalize List.replicate (8 * (((fxAll bits).length + 7) / 8) - (fxAll bits).length) false = pd at hB
  have e : B = [true] ++ ([true, false] ++ (bits ++ (sbits flit 256 ++ pd))) := by rw [hB]; simp [fxAll]
  obtain ⟨h1, h2⟩ := fx_head (most := most) e
  refine ⟨h1, ?_⟩
  have l3 : 3 ≤ B.length := by rw [e]; simp only [List.length_append, List.length_cons, List.length_nil]; omega
  have hd3 : B.drop 3 = bits ++ (sbits flit 256 ++ pd) := by rw [e]; rfl
  obtain ⟨k, hk, hdec⟩ := h.dec (B := B) (most := most) l3 hd3 hm
  have l4 := drop_len hd3
  rw [h2, show B.length + 1 = ((B.length - k) + 1) + k by omega, hdec, zcoded_end _ (drop_more hd3)]

theorem fx_bad (h : Fx bits out) (h0 : 0 ≤ most) (hm : most < (out.length : Int)) : znot2 (bitsOf ((val (fxAll bits) : Nat) : Int) (8 * (((fxAll bits).length + 7) / 8))) (0, [], 0) ∧
    (zblock (bitsOf ((val (fxAll bits) : Nat) : Int) (8 * (((fxAll bits).length + 7) / 8))) most (0, [], 0)).2.2.2 = 5 := by
  have hB := fx_B (fxAll bits)
  generalize bitsOf ((val (fxAll bits) : Nat) : Int) (8 * (((fxAll bits).length + 7) / 8)) = B at hB ⊢
  generalize List.replicate (8 * (((fxAll bits).length + 7) / 8) - (fxAll bits).length) false = pd at hB
  have e : B = [true] ++ ([true, false] ++ (bits ++ (sbits flit 256 ++ pd))) := by rw [hB]; simp [fxAll]
  obtain ⟨h1, h2⟩ := fx_head (most := most) e
  refine ⟨h1, ?_⟩
  have l3 : 3 ≤ B.length := by rw [e]; simp only [List.length_append, List.length_cons, List.length_nil]; omega
  have hd3 : B.drop 3 = bits ++ (sbits flit 256 ++ pd) := by rw [e]; rfl
  have l4 := drop_len hd3
  have := h.short (B := B) (most := most) l3 hd3 h0 hm (B.length + 1 - bits.length)
  rw [show B.length + 1 - bits.length + bits.length = B.length + 1 by omega] at this
  generalize zcoded flit fdist B most (B.length + 1) (3, [], 0) = zz at this h2
  rw [h2]
  exact this

theorem Fx.bytes (h : Fx bits out) : ∀ x ∈ out, 0 ≤ x ∧ x < 256 := by
  induction h with
  | nil => intro x hx; simp at hx
  | lit h h0 h1 ih =>
    intro x hx
    rcases List.mem_append.1 hx with hx | hx
    · exact ih x hx
    · rw [List.mem_singleton.1 hx]; exact ⟨h0, h1⟩
  | copy h _ _ _ _ _ _ ih => exact tkCopy_b _ _ _ ih

theorem fxAll_length : (fxAll bits).length = 3 + bits.length + 7 := by
  unfold fxAll
  rw [List.length_append, List.length_append, sbits_length, flit_get (by decide)]
  simp
end

theorem trovelaw7_InflateMade.law (s : Sl) (L : List (Int × Int × Int)) (W : World) (hr : Rd W 3 s (tri .u8 .i64 .i64 L)) (hL : ∀ y ∈ L, (Lit.int .u8 y.1).wf = true ∧ (Lit.int .i64 y.2.1).wf = true ∧ (Lit.int .i64 y.2.2).wf = true) :
    Calls Try.prog 28 ⟨[.slice s.a s.len s.cap]⟩ W fun e w' => e = .returned (.bool true) ∧ Mod [] W w' := by
  refine ret_k (trovelaw7_InflateMade.ok _ _ _ ?_)
  unfold trovelaw7_InflateMade
  have hb : ∀ t ∈ L, 0 ≤ t.1 ∧ t.1 < 256 := fun t ht => wf_u8 (hL t ht).1
  have hl := hr.1
  rw [tri_length] at hl
  haveI : ∀ ps, Rdb [] W s ps 3 (tks L) := fun ps => Rdb.start hr
  refine trovelaw7_known.c (St.start0 (w := W)) fun w h => ⟨_, rfl, br_f1 ?_⟩
  refine br_d (fun _ => ⟨rfl, h.mod⟩) fun g1 => ?_
  refine trovelaw7_fixed.c (s := s) (L := L) h (by omega) hb (fun s1 s2 w bits out hx ho hbl h1 h2 h => ⟨s1, s2, _, rfl, br_f1 ?_⟩) (fun w h => ⟨⟨none, 0, 0⟩, ⟨none, 0, 0⟩, _, rfl, br_t1 ⟨rfl, h.mod⟩⟩)
  have h : St [] W w [rdA 1 s1 (u8s (byt (val (fxAll bits)) (((fxAll bits).length + 7) / 8))), ownA 1 s2 (u8s out)] := h
  have hal := fxAll_length (bits := bits)
  obtain ⟨n1, b1⟩ := fx_good (most := ((s2.len : Nat) : Int)) hx (by omega)
  refine inflate_Inflate.c (s := s1) h (by omega) (by omega) (by omega) (ZRun.last n1 (by rw [b1]) (by rw [b1])) (fun t w _ ht h => ⟨t, _, _, rfl, ?_⟩) (fun w he _ => absurd (by rw [b1]) he)
  rw [b1] at h ⊢
  refine br_no rfl ?_
  refine h.bt (s := t) hx.bytes ?_
  refine h.bt (s := s2) hx.bytes ?_
  refine br_no (by simp) ?_
  refine br_no (by simp only [h1, hal]; simp) ?_
  refine br_b (fun _ => ⟨rfl, h.mod⟩) fun g2 => ?_
  have g2 : s2.len ≠ 0 := by intro e; rw [e] at g2; simp at g2
  refine lt_as (show IntKind.i64.wrap (((s2.len : Nat) : Int) - 1) = ((s2.len - 1 : Nat) : Int) by rw [wrap_i64 (by omega) (by omega)]; omega) ?_
  obtain ⟨n2, b2⟩ := fx_bad (most := ((s2.len - 1 : Nat) : Int)) hx (by omega) (by omega)
  refine inflate_Inflate.c (s := s1) h (by omega) (by omega) (by omega) (ZRun.bad n2 (by rw [b2]; decide)) (fun t w he _ _ => absurd he (by rw [b2]; decide)) (fun w he h => ⟨⟨none, 0, 0⟩, _, _, rfl, ?_⟩)
  rw [b2]
  exact ⟨rfl, h.mod⟩

theorem trovelaw7_InflateFar.law (n m d : Int) (W : World) : Calls Try.prog 30 ⟨[.int .i64 n, .int .i64 m, .int .i64 d]⟩ W fun e w' => e = .returned (.bool true) ∧ Mod [] W w' := by
  refine ret_k (trovelaw7_InflateFar.ok _ _ _ _ _ ?_)
  unfold trovelaw7_InflateFar
  refine trovelaw7_known.c (St.start0 (w := W)) fun w h => ⟨_, rfl, br_f1 ?_⟩
  unfold trovelaw7_InflateFar.j1
  refine br_d (fun _ => ⟨rfl, h.mod⟩) fun g1 => ?_
  refine br_d (fun _ => ⟨rfl, h.mod⟩) fun g2 => ?_
  refine br_d (fun _ => ⟨rfl, h.mod⟩) fun g3 => ?_
  refine br_d (fun _ => ⟨rfl, h.mod⟩) fun g4 => ?_
  refine br_d (fun _ => ⟨rfl, h.mod⟩) fun g5 => ?_
  refine br_d (fun _ => ⟨rfl, h.mod⟩) fun g6 => ?_
  obtain ⟨n, rfl⟩ : ∃ k : Nat, n = k := ⟨n.toNat, by omega⟩
  unfold trovelaw7_InflateFar.j2 trovelaw7_InflateFar.j15
  refine loop2 (fun (a : Nat × List Tk) (o : Sl) (i' : Int) w' => i' = a.1 ∧ a.1 ≤ n ∧ a.2.length = a.1 ∧ (∀ t ∈ a.2, 0 ≤ t.1 ∧ t.1 < 256) ∧ St [] W w' [ownA 3 o (tks a.2)]) (fun a => n - a.1) (0, []) ⟨rfl, by simp, rfl, by simp, h.nil 3⟩ ?_
  clear h
  rintro ⟨i, L⟩ o i' wL I μ ⟨rfl, hi, hLl, hLb, h⟩ hin
  simp only at hi hLl hLb h hin ⊢
  unfold trovelaw7_InflateFar.b3
  refine br_d (fun g => ?_) (fun g => ?_)
  · refine lt_i ⟨rfl, ?_⟩
    refine h.pushT (s := o) (t := (IntKind.u8.wrap (i : Int), 0, 0)) (by omega) fun o2 w _ h => ?_
    refine lt_as (wrap_i64 (by omega) (by omega)) ?_
    refine ⟨⟨rfl, rfl, rfl⟩, hin (i + 1, L ++ [(IntKind.u8.wrap (i : Int), 0, 0)]) _ _ _ ⟨by simp, by simp only; omega, by simp [hLl], ?_, h⟩ (by simp only; omega)⟩
    intro t ht
    rcases List.mem_append.1 ht with ht | ht
    · exact hLb t ht
    · rw [List.mem_singleton.1 ht]
      rw [wrap_u8]
      simp only
      omega
  have : i = n := by omega
  subst this
  have hol := h.len
  rw [tri_length] at hol
  clear hin
  unfold trovelaw7_InflateFar.j3
  refine h.new fun wb w h => ?_
  have h : St [] W w [rwA wb [], ownA 3 o (tks L)] := rwA_i (s := ⟨none, 0, 0⟩) (l := []) (h.nil 1).at1
  refine troveref2_Writer_Put.c h (by decide) fun w h => ⟨rfl, ?_⟩
  unfold trovelaw7_InflateFar.j4
  refine troveref2_Writer_Put.c h (by decide) fun w h => ⟨rfl, ?_⟩
  rw [show ([] : List Bool) ++ pb 1 1 = [true] by kernel_rfl, show pb 1 2 = [true, false] by kernel_rfl] at h
  unfold trovelaw7_InflateFar.j5 trovelaw7_InflateFar.j14
  refine loop2 (fun (a : Nat × List Bool × List Int) (q : Sl) (i' : Int) w' => i' = a.1 ∧ a.1 ≤ i ∧ Fx a.2.1 a.2.2 ∧ a.2.1.length ≤ 40 * a.1 ∧ a.2.2.length = a.1 ∧ St [] W w' [rwA wb ([true] ++ [true, false] ++ a.2.1), ownA 1 q (u8s a.2.2), ownA 3 o (tks L)]) (fun a => i - a.1) (0, [], []) ⟨rfl, by simp, Fx.nil, by simp, rfl, (h.nil 1).at1⟩ ?_
  clear h
  rintro ⟨j, bits, out⟩ q j' wL I μ ⟨rfl, hj, hx, hbl, hjl, h⟩ hin
  simp only at hj hx hbl hjl h hin ⊢
  have hql := h.at1.len
  rw [ivs_length] at hql
  unfold trovelaw7_InflateFar.b2
  refine br_d (fun g => ?_) (fun g => ?_)
  · have hjL : j < L.length := by omega
    have hbt := hLb L[j] (List.getElem_mem hjL)
    refine h.lt0 (s := o) j rfl hjL ?_
    obtain ⟨b, hbb⟩ : ∃ b : Nat, L[j].1 = b := ⟨L[j].1.toNat, by omega⟩
    refine lt_as (show IntKind.i64.wrap L[j].1 = (b : Int) by rw [wrap_i64 (by omega) (by omega)]; exact hbb) ?_
    refine trovelaw7_put.c (s := b) h (by omega) (by simp only [List.length_append, List.length_cons, List.length_nil]; omega) fun w h => ⟨rfl, ?_⟩
    refine h.lt0 (s := o) j rfl hjL ?_
    refine h.pushI (s := q) (by omega) fun q2 w h => ?_
    refine lt_as (wrap_i64 (by omega) (by omega)) ?_
    have hs9 := sbits_le (s := b) (by omega)
    refine ⟨⟨rfl, rfl, rfl, rfl, rfl⟩, hin (j + 1, bits ++ sbits flit b, out ++ [L[j].1]) _ _ _ ⟨by simp, by simp only; omega, ?_, by simp only [List.length_append]; omega, by simp [hjl], ?_⟩ (by simp only; omega)⟩
    · have := Fx.lit hx hbt.1 hbt.2
      rw [hbb, Int.toNat_natCast] at this
      rw [hbb]; exact this
    · simp only
      rw [← List.append_assoc]
      exact h.sub
  have : j = i := by omega
  subst this
  clear hin
  unfold trovelaw7_InflateFar.j6
  refine trovelaw7_sym.c (v := m) (dist := false) h (fun e => by cases e) (fun _ => by omega) fun s e x w hs h => ⟨s, e, x, rfl, ?_⟩
  have hsr := symP_len hs
  have hsx := symP_x hs
  unfold trovelaw7_InflateFar.j7
  obtain ⟨s, rfl⟩ : ∃ k : Nat, s = k := ⟨s.toNat, by omega⟩
  refine trovelaw7_put.c (s := s) h (by omega) (by simp only [List.length_append, List.length_cons, List.length_nil]; omega) fun w h => ⟨rfl, ?_⟩
  have hs9 := sbits_le (s := s) (by omega)
  refine troveref2_Writer_Put.c h (by simp only [List.length_append, List.length_cons, List.length_nil]; omega) fun w h => ⟨rfl, ?_⟩
  rw [pb_bits hsx.1 (by omega)] at h
  have hbx : (bitsOf e x.toNat).length ≤ 14 := by rw [bitsOf_length]; omega
  unfold trovelaw7_InflateFar.j8
  refine trovelaw7_sym.c (v := d) (dist := true) h (fun _ => by omega) (fun e => by cases e) fun n2 e2 x2 w hs2 h => ⟨n2, e2, x2, rfl, ?_⟩
  have hsx2 := symP_x hs2
  have hsr2 : 0 ≤ n2 ∧ n2 < 30 := by
    rcases hs2 with ⟨_, h1, h2, _⟩ | ⟨h1, _⟩
    · exact ⟨h1, h2⟩
    · cases h1
  obtain ⟨n2, rfl⟩ : ∃ k : Nat, n2 = k := ⟨n2.toNat, by omega⟩
  refine troveref2_Writer_Code.c h (by simp only [List.length_append, List.length_cons, List.length_nil]; omega) fun w h => ⟨rfl, ?_⟩
  have es : (pb (n2 : Int) 5).reverse = sbits fdist n2 := by
    rw [show (5 : Int) = ((5 : Nat) : Int) from rfl, pb_code (by decide)]
    unfold sbits
    rw [hcode_fdist (by omega), fdist_get (by omega)]
    rfl
  rw [es] at h
  have hs5 : (sbits fdist n2).length = 5 := by rw [sbits_length, fdist_get (by omega)]; rfl
  unfold trovelaw7_InflateFar.j9
  refine troveref2_Writer_Put.c h (by simp only [List.length_append, List.length_cons, List.length_nil]; omega) fun w h => ⟨rfl, ?_⟩
  rw [pb_bits hsx2.1 (by omega)] at h
  have hbx2 : (bitsOf e2 x2.toNat).length ≤ 14 := by rw [bitsOf_length]; omega
  refine trovelaw7_put.c (s := 256) h (by decide) (by simp only [List.length_append, List.length_cons, List.length_nil]; omega) fun w h => ⟨rfl, ?_⟩
  have h256 := sbits_le (s := 256) (by decide)
  unfold trovelaw7_InflateFar.j10
  refine troveref2_Writer_Done.c h (by simp only [List.length_append, List.length_cons, List.length_nil]; omega) fun s1 w h1 _ h => ⟨s1, rfl, ?_⟩
  have hlen : (bits ++ (sbits flit s ++ (bitsOf e x.toNat ++ (sbits fdist n2 ++ bitsOf e2 x2.toNat)))).length ≤ 40 * j + 42 := by simp only [List.length_append]; omega
  have ea : [true] ++ [true, false] ++ bits ++ sbits flit s ++ bitsOf e x.toNat ++ sbits fdist n2 ++ bitsOf e2 x2.toNat ++ sbits flit 256 = fxAll (bits ++ (sbits flit s ++ (bitsOf e x.toNat ++ (sbits fdist n2 ++ bitsOf e2 x2.toNat)))) := by simp [fxAll]
  rw [ea] at h h1
  have hal := fxAll_length (bits := bits ++ (sbits flit s ++ (bitsOf e x.toNat ++ (sbits fdist n2 ++ bitsOf e2 x2.toNat))))
  have h := h.tail fun _ _ _ h => h.drop
  have h : St [] W w [rdA 1 s1 (u8s (byt (val (fxAll (bits ++ (sbits flit s ++ (bitsOf e x.toNat ++ (sbits fdist n2 ++ bitsOf e2 x2.toNat)))))) (((fxAll (bits ++ (sbits flit s ++ (bitsOf e x.toNat ++ (sbits fdist n2 ++ bitsOf e2 x2.toNat))))).length + 7) / 8))), ownA 1 q (u8s out), ownA 3 o (tks L)] := h
  obtain ⟨m, rfl⟩ : ∃ k : Nat, m = k := ⟨m.toNat, by omega⟩
  by_cases hfar : (j : Int) < d
  · -- too far
    have bad : znot2 (bitsOf ((val (fxAll (bits ++ (sbits flit s ++ (bitsOf e x.toNat ++ (sbits fdist n2 ++ bitsOf e2 x2.toNat))))) : Nat) : Int) (8 * (((fxAll (bits ++ (sbits flit s ++ (bitsOf e x.toNat ++ (sbits fdist n2 ++ bitsOf e2 x2.toNat))))).length + 7) / 8))) (0, [], 0) ∧
        (zblock (bitsOf ((val (fxAll (bits ++ (sbits flit s ++ (bitsOf e x.toNat ++ (sbits fdist n2 ++ bitsOf e2 x2.toNat))))) : Nat) : Int) (8 * (((fxAll (bits ++ (sbits flit s ++ (bitsOf e x.toNat ++ (sbits fdist n2 ++ bitsOf e2 x2.toNat))))).length + 7) / 8))) 5000 (0, [], 0)).2.2.2 = 2 := by
      have hB := fx_B (fxAll (bits ++ (sbits flit s ++ (bitsOf e x.toNat ++ (sbits fdist n2 ++ bitsOf e2 x2.toNat)))))
      generalize bitsOf ((val (fxAll (bits ++ (sbits flit s ++ (bitsOf e x.toNat ++ (sbits fdist n2 ++ bitsOf e2 x2.toNat))))) : Nat) : Int) (8 * (((fxAll (bits ++ (sbits flit s ++ (bitsOf e x.toNat ++ (sbits fdist n2 ++ bitsOf e2 x2.toNat))))).length + 7) / 8)) = B at hB ⊢
      generalize List.replicate (8 * (((fxAll (bits ++ (sbits flit s ++ (bitsOf e x.toNat ++ (sbits fdist n2 ++ bitsOf e2 x2.toNat))))).length + 7) / 8) - (fxAll (bits ++ (sbits flit s ++ (bitsOf e x.toNat ++ (sbits fdist n2 ++ bitsOf e2 x2.toNat))))).length) false = pd at hB
      have eB : B = [true] ++ ([true, false] ++ (bits ++ (sbits flit s ++ (bitsOf e x.toNat ++ (sbits fdist n2 ++ (bitsOf e2 x2.toNat ++ (sbits flit 256 ++ pd))))))) := by rw [hB]; simp [fxAll]
      obtain ⟨k1, k2⟩ := fx_head (most := 5000) eB
      refine ⟨k1, ?_⟩
      have l3 : 3 ≤ B.length := by rw [eB]; simp only [List.length_append, List.length_cons, List.length_nil]; omega
      have hd3 : B.drop 3 = bits ++ (sbits flit s ++ (bitsOf e x.toNat ++ (sbits fdist n2 ++ (bitsOf e2 x2.toNat ++ (sbits flit 256 ++ pd))))) := by rw [eB]; rfl
      obtain ⟨k, hk, hdec⟩ := hx.dec (B := B) (most := 5000) l3 hd3 (by omega)
      have l4 := drop_len hd3
      have hd4 := drop_more hd3
      have l5 := drop_len hd4
      have hd5 := drop_more hd4
      have hz := zbehind_at (B := B) (most := 5000) (p := 3 + bits.length + (sbits flit s).length) (out := out) (s := (s : Int)) (n := (m : Int)) (d := d) (s2 := (n2 : Int)) (by omega) hs hs2 (by omega) (by omega) hd5
      have hc := zcoded_copy (B := B) (most := 5000) (p := 3 + bits.length) (out := out) (s := (s : Int)) (by omega) (by omega) (B.length - k) hd4
      rw [Int.toNat_natCast] at hc
      rw [k2, show B.length + 1 = ((B.length - k) + 1) + k by omega, hdec, hc, hz, if_pos (by omega), zcp_bad _ _ (zfail_ne (by decide)), zcoded_bad _ (zfail_ne (by decide))]
      rfl
    refine inflate_Inflate.c (s := s1) h (by omega) (by omega) (by omega) (ZRun.bad bad.1 (by rw [bad.2]; decide)) (fun t w he _ _ => absurd he (by rw [bad.2]; decide)) (fun w he h => ⟨⟨none, 0, 0⟩, _, _, rfl, ?_⟩)
    rw [bad.2]
    exact br_is (decide_eq_true hfar) (br_is rfl ⟨rfl, h.mod⟩)
  · have hfx := Fx.copy hx (n := (m : Int)) (d := d) (by omega) (by omega) (by omega) (by omega) hs hs2
    rw [Int.toNat_natCast, Int.toNat_natCast, Int.toNat_natCast] at hfx
    have hcl := tkCopy_length d m out
    obtain ⟨k1, k2⟩ := fx_good (most := 5000) hfx (by omega)
    refine inflate_Inflate.c (s := s1) h (by omega) (by omega) (by omega) (ZRun.last k1 (by rw [k2]) (by rw [k2])) (fun t w _ ht h => ⟨t, _, _, rfl, ?_⟩) (fun w he _ => absurd (by rw [k2]) he)
    rw [k2] at h
    refine br_no (decide_eq_false hfar) ?_
    unfold trovelaw7_InflateFar.j11 trovelaw7_InflateFar.j13
    have hby := hfx.bytes
    have h : St [] W w [rdA 1 t (u8s (tkCopy d m out)), ownA 1 q (u8s out)] := h.sub
    refine loop2 (fun (a : Nat × List Int) (q : Sl) (k' : Int) w' => k' = a.1 ∧ a.1 ≤ m ∧ tkCopy d (m - a.1) a.2 = tkCopy d m out ∧ a.2.length = out.length + a.1 ∧ St [] W w' [ownA 1 q (u8s a.2), rdA 1 t (u8s (tkCopy d m out))]) (fun a => m - a.1) (0, out) ⟨rfl, by simp, by simp, by simp, h.at1⟩ ?_
    clear h
    rintro ⟨k, o3⟩ q k' w3 I3 μ3 ⟨rfl, hkm, hcp, hlen3, h⟩ hin3
    simp only at hkm hcp hlen3 h hin3 ⊢
    have hql := h.len
    rw [ivs_length] at hql
    unfold trovelaw7_InflateFar.b1
    refine br_d (fun g9 => ?_) (fun g9 => ?_)
    · obtain ⟨f, hf⟩ : ∃ f, m - k = f + 1 := ⟨m - k - 1, by omega⟩
      rw [hf, tkCopy_succ] at hcp
      refine lt_as (show IntKind.i64.wrap (((q.len : Nat) : Int) - d) = ((o3.length - d.toNat : Nat) : Int) by rw [wrap_i64 (by omega) (by omega)]; omega) ?_
      refine h.lx (s := q) (o3.length - d.toNat) rfl (by omega) ?_
      refine h.pushI (s := q) (by omega) fun q2 w h => ?_
      refine lt_as (wrap_i64 (by omega) (by omega)) ?_
      refine ⟨⟨rfl, rfl, rfl, rfl⟩, hin3 (k + 1, o3 ++ [o3.getD (o3.length - d.toNat) 0]) _ _ _ ⟨by simp, by simp only; omega, ?_, by simp; omega, h⟩ (by simp only; omega)⟩
      simp only
      rw [show m - (k + 1) = f by omega]
      exact hcp
    · have : k = m := by omega
      subst this
      rw [Nat.sub_self, tkCopy] at hcp
      rw [hcp] at h
      unfold trovelaw7_InflateFar.j12
      refine br_is rfl ?_
      refine h.bt (s := t) hby ?_
      refine h.bt (s := q) hby ?_
      exact ⟨by simp, h.mod⟩

end Go.Proofs.Ytkajimndclhgaaa
