/- The document's SHA-1: words, blocks. Own work. -/
import Derived.Test.YtkajimndclhgaaaShaF
import Derived.Test.YtkajimndclhgaaaPick
namespace Go.Proofs.Ytkajimndclhgaaa
open Go Go.Proofs
set_option linter.unusedVariables false
set_option linter.unusedSimpArgs false
attribute [local irreducible] apK cpK mkK hs sumB rounds growW

theorem or32 {a b t m : Nat} (hm : m = 2 ^ t) (ha : a < m) (hs : a + b * m < 4294967296) : orV .u32 ((b * m : Nat) : Int) (a : Int) = ((a + b * m : Nat) : Int) := by
  subst hm
  have h := orV_uadd (k := .u32) (a := a) (b := b) (t := t) rfl ha hs
  rw [orV_comm]
  have e : ((b * 2 ^ t : Nat) : Int) = (b : Int) * 2 ^ t := by simp
  rw [e, h, Int.natCast_add, e]

theorem shl32 {a t m : Nat} (hm : m = 2 ^ t) (ht : t ≤ 32) (hs : a * m < 4294967296) : shlV .u32 (a : Int) (t : Int) = ((a * m : Nat) : Int) := by
  subst hm
  rw [shlV_u (k := .u32) rfl ht hs]
  simp

theorem word_of {a b c d : Int} (ha : 0 ≤ a ∧ a < 256) (hb : 0 ≤ b ∧ b < 256) (hc : 0 ≤ c ∧ c < 256) (hd : 0 ≤ d ∧ d < 256) :
    orV .u32 (orV .u32 (orV .u32 (shlV .u32 a 24) (shlV .u32 b 16)) (shlV .u32 c 8)) d = be [a, b, c, d] := by
  obtain ⟨a, rfl⟩ : ∃ n : Nat, a = n := ⟨a.toNat, by omega⟩
  obtain ⟨b, rfl⟩ : ∃ n : Nat, b = n := ⟨b.toNat, by omega⟩
  obtain ⟨c, rfl⟩ : ∃ n : Nat, c = n := ⟨c.toNat, by omega⟩
  obtain ⟨d, rfl⟩ : ∃ n : Nat, d = n := ⟨d.toNat, by omega⟩
  have h1 : shlV .u32 (a : Int) 24 = ((a * 16777216 : Nat) : Int) := shl32 (t := 24) (by decide) (by decide) (by omega)
  have h2 : shlV .u32 (b : Int) 16 = ((b * 65536 : Nat) : Int) := shl32 (t := 16) (by decide) (by decide) (by omega)
  have h3 : shlV .u32 (c : Int) 8 = ((c * 256 : Nat) : Int) := shl32 (t := 8) (by decide) (by decide) (by omega)
  have u1 := or32 (a := b * 65536) (b := a) (t := 24) (m := 16777216) (by decide) (by omega) (by omega)
  have u2 := or32 (a := c * 256) (b := b + a * 256) (t := 16) (m := 65536) (by decide) (by omega) (by omega)
  have u3 := or32 (a := d) (b := c + (b + a * 256) * 256) (t := 8) (m := 256) (by decide) (by omega) (by omega)
  rw [show (b + a * 256) * 65536 = b * 65536 + a * 16777216 by omega] at u2
  rw [show (c + (b + a * 256) * 256) * 256 = c * 256 + (b * 65536 + a * 16777216) by omega] at u3
  rw [h1, h2, h3, u1, u2, u3]
  simp only [be, List.foldl_cons, List.foldl_nil]
  omega

section
variable {F0 : List Nat} {w0 w : World} {ps : List As}

theorem troveref3_word.c {s : Sl} {xs : List Int} {K : Ending → World → Prop} (hr : Rd w 1 s (u8s xs)) (hx : allB xs) (hl : 4 ≤ xs.length) (hk : ∀ w', Mod [] w w' → K (.returned (.int .u32 (be (xs.take 4)))) w') : Calls Try.prog 152 ⟨[.slice s.a s.len s.cap]⟩ w K := by
  have hs := hr.1
  rw [u8s_length] at hs
  refine ret_k (troveref3_word.ok _ _ _ ?_)
  unfold troveref3_word
  refine lt_i ?_
  have hr := hr.keep (Mod.drew w) (by simp)
  match xs, hl, hx, hr, hk with
  | a :: b :: c :: d :: r, _, hx, hr, hk =>
    have ha := hx a (by simp)
    have hb := hx b (by simp)
    have hc := hx c (by simp)
    have hd := hx d (by simp)
    refine hr.ix (by decide) (by decide) (by omega) fun p hp => ?_
    refine hr.ldI (i := 0) (n := a) hp rfl ?_
    refine lt_as (show IntKind.u32.wrap a = a by rw [wrap_u32]; omega) ?_
    refine ⟨by decide, lt_i ?_⟩
    refine hr.ix (by decide) (by decide) (by omega) fun p hp => ?_
    refine hr.ldI (i := 1) (n := b) hp rfl ?_
    refine lt_as (show IntKind.u32.wrap b = b by rw [wrap_u32]; omega) ?_
    refine ⟨by decide, lt_i (lt_i ?_)⟩
    refine hr.ix (by decide) (by decide) (by omega) fun p hp => ?_
    refine hr.ldI (i := 2) (n := c) hp rfl ?_
    refine lt_as (show IntKind.u32.wrap c = c by rw [wrap_u32]; omega) ?_
    refine ⟨by decide, lt_i (lt_i ?_)⟩
    refine hr.ix (by decide) (by decide) (by omega) fun p hp => ?_
    refine hr.ldI (i := 3) (n := d) hp rfl ?_
    refine lt_as (show IntKind.u32.wrap d = d by rw [wrap_u32]; omega) ?_
    refine lt_as (word_of ha hb hc hd) ?_
    exact hk _ (Mod.drew w)

end

end Go.Proofs.Ytkajimndclhgaaa
