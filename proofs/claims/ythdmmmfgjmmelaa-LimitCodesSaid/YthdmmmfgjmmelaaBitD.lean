/- The statement on a number that is put in two halves: what its text answers. Own work. -/
import Derived.Test.YthdmmmfgjmmelaaBitC
import Derived.Test.YthdmmmfgjmmelaaGBitL
namespace Go.Proofs.Ythdmmmfgjmmelaa
open Go Go.Proofs
set_option linter.unusedVariables false
set_option linter.unusedSimpArgs false
attribute [local irreducible] apK cpK mkK

def u8 (xs : List Int) : List UInt8 := xs.map fun x => UInt8.ofNat x.toNat

theorem byt_ok (V N : Nat) : ∀ x ∈ byt V N, 0 ≤ x ∧ x < 256 := by
  intro x hx
  obtain ⟨i, _, rfl⟩ := List.mem_map.1 hx
  omega

theorem Rd.btS {w : World} {s : Sl} {xs : List Int} {K : ByteArray → Prop} (h : Rd w 1 s (u8s xs)) (hx : ∀ x ∈ xs, 0 ≤ x ∧ x < 256) (hk : K ⟨⟨u8 xs⟩⟩) : btS w s.a s.len K := by
  have hl := h.1
  rw [u8s_length, Nat.mul_one] at hl
  unfold Go.Proofs.Ythdmmmfgjmmelaa.btS
  cases e : s.a with
  | none =>
    cases xs with
    | nil => exact hk
    | cons x xs =>
      obtain ⟨a, ha, _⟩ := h.2 0 (by simp [u8s])
      rw [e] at ha; cases ha
  | some a =>
    refine ⟨u8 xs, by simp [u8, hl], fun j hj => ?_, hk⟩
    rw [h.cell e (by rw [u8s_length]; omega)]
    have hj' : j < xs.length := by omega
    simp only [u8s, u8, List.getElem?_map, List.getElem?_eq_getElem hj', Option.map_some]
    have := hx _ (List.getElem_mem hj')
    congr 2
    rw [UInt8.toNat_ofNat']
    omega

theorem bitsOf_add (v : Int) (a b : Nat) : bitsOf v (a + b) = bitsOf v a ++ bitsOf (v / 2 ^ a) b := by
  unfold bitsOf
  rw [List.range_add, List.map_append, List.map_map]
  congr 1
  apply List.map_congr_left
  intro i _
  simp only [Function.comp, bt]
  congr 2
  have h : (0 : Int) ≤ 2 ^ a := Int.le_of_lt (Int.pow_pos (by decide))
  rw [Int.pow_add, Int.ediv_ediv_of_nonneg h]

section
variable {F0 : List Nat} {w0 w : World} {ps : List As}

end

theorem eqbytes (x : List UInt8) : (!(ByteArray.toList ⟨⟨x⟩⟩ == ByteArray.toList ⟨⟨x⟩⟩)) = false := by simp

end Go.Proofs.Ythdmmmfgjmmelaa
