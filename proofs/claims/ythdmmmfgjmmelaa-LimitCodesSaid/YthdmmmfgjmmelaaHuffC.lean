/- Huffman codes: the document's texts. Own work. -/
import Derived.Test.YthdmmmfgjmmelaaHuffB
import Derived.Test.YthdmmmfgjmmelaaBitE
import Derived.Test.YthdmmmfgjmmelaaGHuffR
namespace Go.Proofs.Ythdmmmfgjmmelaa
open Go Go.Proofs
set_option linter.unusedVariables false
set_option linter.unusedSimpArgs false
attribute [local irreducible] apK cpK mkK

section
variable {F0 : List Nat} {w0 w : World} {ps rest : List As} {ls : List Int}

theorem kr_sn {i : Nat} (h : i < ls.length) : kr (ls.take (i + 1)) = kr (ls.take i) + if 0 < ls.getD i 0 then 2 ^ (15 - (ls.getD i 0).toNat) else 0 := by rw [take_sn h, kr_snoc]

def ocL (l : List Int) (n i : Nat) : List Int := mapR l.length fun j => if 0 < l.getD j 0 ∧ (l.getD j 0 < n ∨ (l.getD j 0 = n ∧ j < i)) then (hcode l j : Int) else 0

/-! ### a code -/

/-- at cb stands the document's code of the lengths ls -/
def hrA (cb : Nat) (ls : List Int) : As := exA fun s : Sl × Sl => ifA (okL ls ∧ kr ls ≤ 32768 ∧ ls.length ≤ 288) <| andA (blkA cb [.slice s.1.a s.1.len s.1.cap, .slice s.2.a s.2.len s.2.cap]) <| andA (ownA 1 s.1 (ivs .i64 ls)) (ownA 1 s.2 (ivs .i64 (hcodes ls)))

theorem hrA_get (cb : Nat) (h : St F0 w0 w ps) [PkF hrA cb ps ls rest] : okL ls ∧ kr ls ≤ 32768 ∧ ls.length ≤ 288 ∧ ∃ s1 s2 : Sl, Blk w cb [.slice s1.a s1.len s1.cap, .slice s2.a s2.len s2.cap] ∧ Rd w 1 s1 (ivs .i64 ls) ∧ Rd w 1 s2 (ivs .i64 (hcodes ls)) := by
  obtain ⟨s, h⟩ := (h.toF hrA cb).exE
  obtain ⟨⟨h1, h2, h3⟩, h⟩ := h.ifE
  have h := h.split
  have g := h.drop.split
  exact ⟨h1, h2, h3, s.1, s.2, h.blk, g.ord, g.drop.ord⟩

theorem hrA_i {cb : Nat} {s1 s2 : Sl} (h1 : okL ls) (h2 : kr ls ≤ 32768) (h3 : ls.length ≤ 288) (h : St F0 w0 w (blkA cb [.slice s1.a s1.len s1.cap, .slice s2.a s2.len s2.cap] :: ownA 1 s1 (ivs .i64 ls) :: ownA 1 s2 (ivs .i64 (hcodes ls)) :: rest)) : St F0 w0 w (hrA cb ls :: rest) := by
  have h := (h.tail fun _ _ _ h => h.join).join
  exact (h.ifI (c := okL ls ∧ kr ls ≤ 32768 ∧ ls.length ≤ 288) ⟨h1, h2, h3⟩).exI (p := fun s : Sl × Sl => ifA (okL ls ∧ kr ls ≤ 32768 ∧ ls.length ≤ 288) <| andA (blkA cb [.slice s.1.a s.1.len s.1.cap, .slice s.2.a s.2.len s.2.cap]) <| andA (ownA 1 s.1 (ivs .i64 ls)) (ownA 1 s.2 (ivs .i64 (hcodes ls)))) (s1, s2)

theorem pos_sum_sn {i : Nat} (h : i < ls.length) : ((ls.take (i + 1)).filter (0 < ·)).sum = ((ls.take i).filter (0 < ·)).sum + if 0 < ls.getD i 0 then ls.getD i 0 else 0 := by
  rw [take_sn h, List.filter_append, List.sum_append]
  by_cases h0 : 0 < ls.getD i 0
  · rw [if_pos h0]
    have : [ls.getD i 0].filter (0 < ·) = [ls.getD i 0] := List.filter_eq_self.2 fun a ha => by rw [List.mem_singleton.1 ha]; simpa using h0
    rw [this]; simp
  · rw [if_neg h0]
    have : [ls.getD i 0].filter (0 < ·) = [] := List.filter_eq_nil_iff.2 fun a ha => by rw [List.mem_singleton.1 ha]; simpa using h0
    rw [this]; simp

/-- the document's reader of bits: its row, the place -/
def bitR (rb : Nat) (x : Sl × Nat) : As := rfA rb x.1 x.2

end

end Go.Proofs.Ythdmmmfgjmmelaa
