/- Texts of bytes, compared. Own work. -/
import Derived.Test.YtkajimndclhgaaaBitD
namespace Go.Proofs.Ytkajimndclhgaaa
open Go Go.Proofs
set_option linter.unusedVariables false
set_option linter.unusedSimpArgs false

theorem toList_loop (bs : ByteArray) : ∀ (k i : Nat) (r : List UInt8), bs.size - i = k → ByteArray.toList.loop bs i r = r.reverse ++ bs.data.toList.drop i := by
  intro k
  induction k with
  | zero =>
    intro i r h
    rw [ByteArray.toList.loop, if_neg (by omega), List.drop_eq_nil_of_le, List.append_nil]
    show bs.data.toList.length ≤ i
    have : bs.size = bs.data.toList.length := by rw [Array.length_toList]; rfl
    omega
  | succ k ih =>
    intro i r h
    have hs : bs.size = bs.data.toList.length := by rw [Array.length_toList]; rfl
    rw [ByteArray.toList.loop, if_pos (by omega), ih _ _ (by omega), List.drop_eq_getElem_cons (show i < bs.data.toList.length by omega)]
    rw [List.reverse_cons, List.append_assoc]
    congr 1
    show bs.get! i :: _ = _
    congr 1
    have h1 : i < bs.data.size := by have : bs.data.toList.length = bs.data.size := Array.length_toList; omega
    have : bs.get! i = bs.data[i]! := rfl
    rw [this, getElem!_pos bs.data i h1]
    rfl
theorem toList_mk (l : List UInt8) : ByteArray.toList ⟨⟨l⟩⟩ = l := by
  unfold ByteArray.toList
  rw [toList_loop _ _ 0 [] rfl]
  rfl
theorem u8_inj : ∀ {xs ys : List Int}, (∀ x ∈ xs, 0 ≤ x ∧ x < 256) → (∀ x ∈ ys, 0 ≤ x ∧ x < 256) → u8 xs = u8 ys → xs = ys := by
  intro xs
  induction xs with
  | nil => intro ys _ _ h; cases ys with
    | nil => rfl
    | cons y ys => cases h
  | cons x xs ih =>
    intro ys hx hy h
    cases ys with
    | nil => cases h
    | cons y ys =>
      simp only [u8, List.map_cons, List.cons.injEq] at h
      have e := congrArg UInt8.toNat h.1
      rw [UInt8.toNat_ofNat', UInt8.toNat_ofNat'] at e
      have h1 := hx x (by simp)
      have h2 := hy y (by simp)
      rw [ih (fun z hz => hx z (by simp [hz])) (fun z hz => hy z (by simp [hz])) h.2]
      congr 1
      omega
theorem u8_beq {xs ys : List Int} (hx : ∀ x ∈ xs, 0 ≤ x ∧ x < 256) (hy : ∀ x ∈ ys, 0 ≤ x ∧ x < 256) : (ByteArray.toList ⟨⟨u8 xs⟩⟩ == ByteArray.toList ⟨⟨u8 ys⟩⟩) = (xs == ys) := by
  rw [toList_mk, toList_mk]
  by_cases h : xs = ys
  · subst h; simp
  · have : ¬ u8 xs = u8 ys := fun e => h (u8_inj hx hy e)
    rw [beq_eq_false_iff_ne.2 this, beq_eq_false_iff_ne.2 h]

end Go.Proofs.Ytkajimndclhgaaa
