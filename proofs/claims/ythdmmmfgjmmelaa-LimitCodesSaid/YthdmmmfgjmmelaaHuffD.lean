/- Huffman codes: what is known; the statements on checks, codes, reads. Own work. -/
import Derived.Test.YthdmmmfgjmmelaaHuffC
import Derived.Test.YthdmmmfgjmmelaaGHuffL
import Derived.Test.YthdmmmfgjmmelaaOpn
namespace Go.Proofs.Ythdmmmfgjmmelaa
open Go Go.Proofs
set_option linter.unusedVariables false
set_option linter.unusedSimpArgs false
attribute [local irreducible] apK cpK mkK br

section
variable {F0 : List Nat} {w0 w : World} {ps rest : List As} {ls : List Int}

theorem huff_Codes.d {s : Sl} {K : Ending → World → Prop} (h : St F0 w0 w ps) [Rdb F0 w0 s ps 1 (ivs .i64 ls)]
    (hk : ∀ s' w', St F0 w0 w' (ownA 1 s' (ivs .i64 (if (hchk ls).2 = 0 then hcodes ls else [])) :: ps) → K (.returned (.tuple ⟨[.slice s'.a s'.len s'.cap, .int .i64 (hchk ls).2]⟩)) w') : Calls Try.prog 48 ⟨[.slice s.a s.len s.cap]⟩ w K := by
  refine huff_Codes.c h (fun s' w g h => ?_) (fun w g h => ?_)
  · rw [if_pos g, g] at hk; exact hk s' w h
  · rw [if_neg g] at hk; exact hk ⟨none, 0, 0⟩ w (h.nil 1)

theorem huff_New.n {s : Sl} {half : Bool} {K : Ending → World → Prop} (h : St F0 w0 w ps) [Rdb F0 w0 s ps 1 (ivs .i64 ls)]
    (hk : ∀ (p : Option Addr) w', p.isNone = decide (hnew ls half ≠ 0) → St F0 w0 w' ps → K (.returned (.tuple ⟨[.pointer p, .int .i64 (hnew ls half)]⟩)) w') : Calls Try.prog 16 ⟨[.slice s.a s.len s.cap, .bool half]⟩ w K := by
  refine huff_New.c h (fun cb w g h => ?_) (fun w g h => ?_)
  · rw [g] at hk; exact hk _ w rfl h.drop
  · exact hk none w (by rw [decide_eq_true g]; rfl) h

theorem huff_Code_Next.d {cb rb V N p : Nat} {ps' : List As} {K : Ending → World → Prop} (h : St F0 w0 w ps') [PkF bitA rb ps' (V, N, p) ps] [PkF hcA cb ps ls rest] (hN : N ≤ 137438953472) (hp : p ≤ 8 * N)
    (hk : ∀ w', (hnext ls (bitsOf V (8 * N)) p).2.2 ≤ 8 * N → St F0 w0 w' (bitA rb (V, N, (hnext ls (bitsOf V (8 * N)) p).2.2) :: ps) → K (.returned (.tuple ⟨[.int .i64 (hnext ls (bitsOf V (8 * N)) p).1, .int .i64 (hnext ls (bitsOf V (8 * N)) p).2.1]⟩)) w') :
    Calls Try.prog 23 ⟨[.pointer (some ⟨cb, 0, none⟩), .pointer (some ⟨rb, 0, none⟩)]⟩ w K :=
  huff_Code_Next.c (h.toF bitA rb) hN hp hk

theorem bits_NewReader.d {s : Sl} {xs : List Int} {K : Ending → World → Prop} (h : St F0 w0 w ps) [Rdb F0 w0 s ps 1 (u8s xs)] (hx : ∀ x ∈ xs, 0 ≤ x ∧ x < 256) (hL : xs.length ≤ 137438953472)
    (hk : ∀ V rb w', xs = byt V xs.length → St F0 w0 w' (bitA rb (V, xs.length, 0) :: ps) → K (.returned (.pointer (some ⟨rb, 0, none⟩))) w') : Calls Try.prog 21 ⟨[.slice s.a s.len s.cap]⟩ w K := by
  obtain ⟨V, hV⟩ := byt_ex xs hx
  have hr := h.rdb s
  rw [hV] at hr
  exact bits_NewReader.c h hr hL fun rb w h => hk V rb w hV h

end

theorem hcodes_small {ls : List Int} : (if (hchk ls).2 = 0 then hcodes ls else []).length ≤ 1000000 := by
  split
  · rename_i h
    have := (hchk_ok h).2.2.1
    rw [hcodes_length]; omega
  · simp

end Go.Proofs.Ythdmmmfgjmmelaa
