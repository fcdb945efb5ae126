/- The document's reader of bits, and the statement on any bytes that are read: what its text answers. Own work. -/
import Derived.Test.YthdmmmfgjmmelaaBitD
import Derived.Test.YthdmmmfgjmmelaaGBitR
namespace Go.Proofs.Ythdmmmfgjmmelaa
open Go Go.Proofs
set_option linter.unusedVariables false
set_option linter.unusedSimpArgs false
attribute [local irreducible] apK cpK mkK

/-! ### slices that came in -/

theorem row_rd {k : IntKind} {w : World} {a : Option Addr} {len cap : Nat} {zs : List Int} (h : (a = none ∧ len = 0 ∧ cap = 0 ∧ zs = []) ∨
    ∃ x, a = some x ∧ len ≤ cap ∧ cap ≤ maxLen ∧ zs.length = cap ∧ (∀ i, i < zs.length → w.cell? (x.add i) = some (.int k (zs.getD i 0))) ∧ ∀ n ∈ zs, (Lit.int k n).wf = true) :
    ∃ xs : List Int, Rd w 1 ⟨a, len, cap⟩ (xs.map (Value.int k)) ∧ (∀ n ∈ xs, (Lit.int k n).wf = true) ∧ xs.length = len := by
  rcases h with ⟨rfl, rfl, rfl, rfl⟩ | ⟨x, rfl, h1, h2, h3, h4, h5⟩
  · exact ⟨[], ⟨rfl, fun i hi => by simp at hi⟩, by simp, rfl⟩
  · refine ⟨zs.take len, ⟨by simp; omega, fun i hi => ⟨x, rfl, ?_⟩⟩, fun n hn => h5 n (List.mem_of_mem_take hn), by simp; omega⟩
    simp only [List.length_map, List.length_take] at hi
    rw [h4 i (by omega)]
    rw [List.getElem?_map, List.getElem?_take, if_pos (by omega), List.getElem?_eq_getElem (show i < zs.length by omega)]
    simp [List.getD, List.getElem?_eq_getElem (show i < zs.length by omega)]

theorem wf_u8 {n : Int} (h : (Lit.int .u8 n).wf = true) : 0 ≤ n ∧ n < 256 := by
  have h : IntKind.u8.min ≤ n ∧ n ≤ IntKind.u8.max := by simpa [Lit.wf] using h
  have h1 : IntKind.u8.min = 0 := rfl
  have h2 : IntKind.u8.max = 255 := rfl
  omega

theorem wf_i64 {n : Int} (h : (Lit.int .i64 n).wf = true) : -9223372036854775808 ≤ n ∧ n < 9223372036854775808 := by
  have h : IntKind.i64.min ≤ n ∧ n ≤ IntKind.i64.max := by simpa [Lit.wf] using h
  have h1 : IntKind.i64.min = -9223372036854775808 := rfl
  have h2 : IntKind.i64.max = 9223372036854775807 := rfl
  omega

/-- bytes are the bytes of a number -/
theorem byt_ex : ∀ (xs : List Int), (∀ x ∈ xs, 0 ≤ x ∧ x < 256) → ∃ V, xs = byt V xs.length
  | [], _ => ⟨0, rfl⟩
  | x :: xs, h => by
    obtain ⟨V, hV⟩ := byt_ex xs (fun y hy => h y (by simp [hy]))
    refine ⟨x.toNat + 256 * V, ?_⟩
    have hx := h x (by simp)
    unfold byt at hV ⊢
    rw [List.length_cons, List.range_succ_eq_map, List.map_cons, List.map_map]
    congr 1
    · simp; omega
    · refine hV.trans ?_
      apply List.map_congr_left
      intro i _
      simp only [Function.comp]
      congr 1
      rw [show 8 * i.succ = 8 + 8 * i by omega, Nat.pow_add, ← Nat.div_div_eq_div_mul]
      congr 2
      have : (x.toNat + 256 * V) / 2 ^ 8 = V := by omega
      rw [this]

/-! ### the document's reader -/

section
variable {F0 : List Nat} {w0 w : World} {ps : List As}

/-- at rb stands the document's reader over the slice s, at of its bits taken -/
def rfA (rb : Nat) (s : Sl) (at' : Nat) : As := blkA rb [.slice s.a s.len s.cap, .int .i64 (at' : Int)]

end

/-! ### the statement -/

end Go.Proofs.Ythdmmmfgjmmelaa
