/- Huffman codes: what is known; the statements on checks, codes, reads. Own work. -/
import Derived.Test.YtkajimndclhgaaaHuffC
import Derived.Test.YtkajimndclhgaaaGHuffL
import Derived.Test.YtkajimndclhgaaaOpn
namespace Go.Proofs.Ytkajimndclhgaaa
open Go Go.Proofs
set_option linter.unusedVariables false
set_option linter.unusedSimpArgs false
attribute [local irreducible] apK cpK mkK br

section
variable {F0 : List Nat} {w0 w : World} {ps rest : List As} {ls : List Int}

theorem huff_Codes.d {s : Sl} {K : Ending → World → Prop} (h : St F0 w0 w ps) [Rdb F0 w0 s ps 1 (ivs .i64 ls)]
    (hk : ∀ s' w', St F0 w0 w' (ownA 1 s' (ivs .i64 (if (hchk ls).2 = 0 then hcodes ls else [])) :: ps) → K (.returned (.tuple ⟨[.slice s'.a s'.len s'.cap, .int .i64 (hchk ls).2]⟩)) w') : Calls Try.prog 97 ⟨[.slice s.a s.len s.cap]⟩ w K := by
  refine huff_Codes.c h (fun s' w g h => ?_) (fun w g h => ?_)
  · rw [if_pos g, g] at hk; exact hk s' w h
  · rw [if_neg g] at hk; exact hk ⟨none, 0, 0⟩ w (h.nil 1)

theorem troveref5_Codes.d {s : Sl} {K : Ending → World → Prop} (h : St F0 w0 w ps) [Rdb F0 w0 s ps 1 (ivs .i64 ls)]
    (hk : ∀ s' w', St F0 w0 w' (ownA 1 s' (ivs .i64 (if (hchk ls).2 = 0 then hcodes ls else [])) :: ps) → K (.returned (.tuple ⟨[.slice s'.a s'.len s'.cap, .int .i64 (hchk ls).2]⟩)) w') : Calls Try.prog 98 ⟨[.slice s.a s.len s.cap]⟩ w K := by
  refine troveref5_Codes.c h (fun s' w g h => ?_) (fun w g h => ?_)
  · rw [if_pos g, g] at hk; exact hk s' w h
  · rw [if_neg g] at hk; exact hk ⟨none, 0, 0⟩ w (h.nil 1)

theorem huff_New.n {s : Sl} {half : Bool} {K : Ending → World → Prop} (h : St F0 w0 w ps) [Rdb F0 w0 s ps 1 (ivs .i64 ls)]
    (hk : ∀ (p : Option Addr) w', p.isNone = decide (hnew ls half ≠ 0) → St F0 w0 w' ps → K (.returned (.tuple ⟨[.pointer p, .int .i64 (hnew ls half)]⟩)) w') : Calls Try.prog 99 ⟨[.slice s.a s.len s.cap, .bool half]⟩ w K := by
  refine huff_New.c h (fun cb w g h => ?_) (fun w g h => ?_)
  · rw [g] at hk; exact hk _ w rfl h.drop
  · exact hk none w (by rw [decide_eq_true g]; rfl) h

theorem troveref5_New.n {s : Sl} {half : Bool} {K : Ending → World → Prop} (h : St F0 w0 w ps) [Rdb F0 w0 s ps 1 (ivs .i64 ls)]
    (hk : ∀ (p : Option Addr) w', p.isNone = decide (hnew ls half ≠ 0) → St F0 w0 w' ps → K (.returned (.tuple ⟨[.pointer p, .int .i64 (hnew ls half)]⟩)) w') : Calls Try.prog 100 ⟨[.slice s.a s.len s.cap, .bool half]⟩ w K := by
  refine troveref5_New.c h (fun cb w g h => ?_) (fun w g h => ?_)
  · rw [g] at hk; exact hk _ w rfl h.drop
  · exact hk none w (by rw [decide_eq_true g]; rfl) h

theorem huff_Code_Next.d {cb rb V N p : Nat} {ps' : List As} {K : Ending → World → Prop} (h : St F0 w0 w ps') [PkF bitA rb ps' (V, N, p) ps] [PkF hcA cb ps ls rest] (hN : N ≤ 137438953472) (hp : p ≤ 8 * N)
    (hk : ∀ w', (hnext ls (bitsOf V (8 * N)) p).2.2 ≤ 8 * N → St F0 w0 w' (bitA rb (V, N, (hnext ls (bitsOf V (8 * N)) p).2.2) :: ps) → K (.returned (.tuple ⟨[.int .i64 (hnext ls (bitsOf V (8 * N)) p).1, .int .i64 (hnext ls (bitsOf V (8 * N)) p).2.1]⟩)) w') :
    Calls Try.prog 102 ⟨[.pointer (some ⟨cb, 0, none⟩), .pointer (some ⟨rb, 0, none⟩)]⟩ w K :=
  huff_Code_Next.c (h.toF bitA rb) hN hp hk

theorem troveref5_Code_Next.d {cb rb V N p : Nat} {s : Sl} {ps' : List As} {K : Ending → World → Prop} (h : St F0 w0 w ps') [PkF bitR rb ps' (s, p) ps] [PkF hrA cb ps ls rest] [Rdb F0 w0 s ps 1 (u8s (byt V N))] (hN : N ≤ 137438953472) (hp : p ≤ 8 * N)
    (hk : ∀ w', (hnext ls (bitsOf V (8 * N)) p).2.2 ≤ 8 * N → St F0 w0 w' (bitR rb (s, (hnext ls (bitsOf V (8 * N)) p).2.2) :: ps) → K (.returned (.tuple ⟨[.int .i64 (hnext ls (bitsOf V (8 * N)) p).1, .int .i64 (hnext ls (bitsOf V (8 * N)) p).2.1]⟩)) w') :
    Calls Try.prog 103 ⟨[.pointer (some ⟨cb, 0, none⟩), .pointer (some ⟨rb, 0, none⟩)]⟩ w K :=
  troveref5_Code_Next.c (s := s) (h.toF bitR rb) hN hp hk

theorem bits_NewReader.d {s : Sl} {xs : List Int} {K : Ending → World → Prop} (h : St F0 w0 w ps) [Rdb F0 w0 s ps 1 (u8s xs)] (hx : ∀ x ∈ xs, 0 ≤ x ∧ x < 256) (hL : xs.length ≤ 137438953472)
    (hk : ∀ V rb w', xs = byt V xs.length → St F0 w0 w' (bitA rb (V, xs.length, 0) :: ps) → K (.returned (.pointer (some ⟨rb, 0, none⟩))) w') : Calls Try.prog 36 ⟨[.slice s.a s.len s.cap]⟩ w K := by
  obtain ⟨V, hV⟩ := byt_ex xs hx
  have hr := h.rdb s
  rw [hV] at hr
  exact bits_NewReader.c h hr hL fun rb w h => hk V rb w hV h

theorem trovelaw5_known.c {K : Ending → World → Prop} (h : St F0 w0 w ps) (hk : ∀ w', St F0 w0 w' ps → K (.returned (.bool true)) w') : Calls Try.prog 94 ⟨[]⟩ w K := by
  refine ret_k (trovelaw5_known.ok _ _ ?_)
  unfold trovelaw5_known
  refine h.new fun n1 w h => ?_
  have h := h.ownB (n := 3) rfl
  refine huff_New.c (s := ⟨some ⟨n1, 0, none⟩, 3, 3⟩) (ls := [1, 2, 2]) h (fun cb w _ h => ⟨_, _, rfl, ?_⟩) (fun w g h => absurd g (by decide))
  refine huff_Codes.d (s := ⟨some ⟨n1, 0, none⟩, 3, 3⟩) (ls := [1, 2, 2]) h fun s1 w h => ⟨s1, _, rfl, ?_⟩
  have hl := h.len
  rw [ivs_length] at hl
  have e3 : (if (hchk [1, 2, 2]).2 = 0 then hcodes [1, 2, 2] else []) = [0, 2, 3] := by decide
  rw [e3] at h hl
  refine huff_Check.c (s := ⟨some ⟨n1, 0, none⟩, 3, 3⟩) (ls := [1, 2, 2]) h fun w h => ⟨_, _, rfl, ?_⟩
  refine lt_i (lt_i (br_no (by decide) (br_f1 (br_no (by decide) ?_))))
  refine h.new fun n2 w h => ?_
  have h := h.ownB (n := 1) rfl
  refine bits_NewReader.c (V := 3) (N := 1) (s := ⟨some ⟨n2, 0, none⟩, 1, 1⟩) h h.ord (by decide) fun rb w h => ⟨_, rfl, ?_⟩
  have h : St F0 w0 w (bitA rb (3, 1, 0) :: _) := h
  refine huff_Code_Next.d h (by decide) (by decide) fun w _ h => ⟨_, _, rfl, ?_⟩
  refine br_is (by simp at hl; simp [← hl]) ?_
  refine h.lx (s := s1) 2 rfl (by decide) (br_is (by decide) (br_is (by decide) (br_is (by decide) ?_)))
  refine h.new fun n3 w h => ?_
  have h := h.ownB (n := 3) rfl
  refine huff_Code_Cost.c (s := ⟨some ⟨n3, 0, none⟩, 3, 3⟩) (cs := [5, 1, 1]) h (by intro x hx; simp at hx; omega) fun w h => ⟨_, rfl, ?_⟩
  have e : ((costN [1, 2, 2] [5, 1, 1] (min ([1, 2, 2] : List Int).length ([5, 1, 1] : List Int).length) : Int) == 9) = true := by decide
  rw [e]
  exact hk w h.sub

theorem trovelaw5_ints.c {a b : Sl} {xs : List Int} {K : Ending → World → Prop} (h : St F0 w0 w ps) [Rdb F0 w0 a ps 1 (ivs .i64 xs)] [Rdb F0 w0 b ps 1 (ivs .i64 xs)] (hL : xs.length ≤ 1000000)
    (hk : ∀ w', St F0 w0 w' ps → K (.returned (.bool true)) w') : Calls Try.prog 101 ⟨[.slice a.a a.len a.cap, .slice b.a b.len b.cap]⟩ w K := by
  refine ret_k (trovelaw5_ints.ok _ _ _ _ ?_)
  unfold trovelaw5_ints
  have l1 := (h.rdb a).1
  have l2 := (h.rdb b).1
  rw [ivs_length] at l1 l2
  refine br_no (by simp; omega) ?_
  unfold trovelaw5_ints.j1 trovelaw5_ints.j3
  refine loop1 (fun (i : Nat) (i' : Int) w' => i' = i ∧ i ≤ xs.length ∧ St F0 w0 w' ps) (fun i => xs.length - i) 0 ⟨rfl, by omega, h⟩ ?_
  clear h
  rintro i i' w I μ ⟨rfl, hi, h⟩ hin
  unfold trovelaw5_ints.b1
  refine br_d (fun g => ?_) (fun g => ?_)
  · refine h.drewK fun w h => ?_
    refine h.lx (s := a) i rfl (by omega) ?_
    refine h.lx (s := b) i rfl (by omega) ?_
    refine br_no (by simp) ?_
    refine lt_as (wrap_i64 (by omega) (by omega)) ?_
    exact ⟨⟨rfl, rfl⟩, hin (i + 1) _ _ ⟨by omega, by omega, h⟩ (by omega)⟩
  · exact hk w h

end

theorem hcodes_small {ls : List Int} : (if (hchk ls).2 = 0 then hcodes ls else []).length ≤ 1000000 := by
  split
  · rename_i h
    have := (hchk_ok h).2.2.1
    rw [hcodes_length]; omega
  · simp

theorem trovelaw5_HuffCodes.law (s : Sl) (half : Bool) (ls : List Int) (W : World) (hr : Rd W 1 s (ivs .i64 ls)) (_ : ∀ n ∈ ls, (Lit.int .i64 n).wf = true) :
    Calls Try.prog 19 ⟨[.slice s.a s.len s.cap, .bool half]⟩ W fun e w' => e = .returned (.bool true) ∧ Mod [] W w' := by
  refine ret_k (trovelaw5_HuffCodes.ok _ _ _ _ ?_)
  unfold trovelaw5_HuffCodes
  haveI : ∀ ps, Rdb [] W s ps 1 (ivs .i64 ls) := fun ps => Rdb.start hr
  refine trovelaw5_known.c (St.start0 (w := W)) fun w h => ⟨_, rfl, br_f1 ?_⟩
  refine br_d (fun _ => ⟨rfl, h.mod⟩) fun g1 => ?_
  refine huff_Check.c h fun w h => ⟨_, _, rfl, ?_⟩
  refine troveref5_Check.c h fun w h => ⟨_, _, rfl, ?_⟩
  refine huff_Codes.d h fun s1 w h => ⟨s1, _, rfl, ?_⟩
  refine troveref5_Codes.d h fun s2 w h => ⟨s2, _, rfl, ?_⟩
  refine huff_New.n (half := half) h fun p1 w e1 h => ⟨p1, _, rfl, ?_⟩
  refine troveref5_New.n (half := half) h fun p2 w e2 h => ⟨p2, _, rfl, ?_⟩
  refine br_is (by simp) (br_is (by simp) ?_)
  refine trovelaw5_ints.c (a := s1) (b := s2) h hcodes_small fun w h => ⟨_, rfl, br_t1 ?_⟩
  refine br_is (by simp) (br_is (by simp) ?_)
  rw [e1, e2]
  exact ⟨by simp, h.mod⟩

theorem trovelaw5_HuffReads.law (s : Sl) (half : Bool) (t : Sl) (ls xs : List Int) (W : World) (hr : Rd W 1 s (ivs .i64 ls)) (hr2 : Rd W 1 t (u8s xs)) (hl : ∀ n ∈ ls, (Lit.int .i64 n).wf = true) (hx : ∀ n ∈ xs, (Lit.int .u8 n).wf = true) :
    Calls Try.prog 20 ⟨[.slice s.a s.len s.cap, .bool half, .slice t.a t.len t.cap]⟩ W fun e w' => e = .returned (.bool true) ∧ Mod [] W w' := by
  refine ret_k (trovelaw5_HuffReads.ok _ _ _ _ _ ?_)
  unfold trovelaw5_HuffReads trovelaw5_HuffReads.j1
  have hlt := hr2.1
  rw [ivs_length] at hlt
  haveI : ∀ ps, Rdb [] W s ps 1 (ivs .i64 ls) := fun ps => Rdb.start hr
  haveI hR2 : ∀ ps, Rdb [] W t ps 1 (u8s xs) := fun ps => Rdb.start hr2
  refine trovelaw5_known.c (St.start0 (w := W)) fun w h => ⟨_, rfl, br_f1 ?_⟩
  refine br_d (fun _ => ⟨rfl, h.mod⟩) fun g1 => ?_
  refine br_d (fun _ => ⟨rfl, h.mod⟩) fun g2 => ?_
  unfold trovelaw5_HuffReads.j2
  refine huff_New.c (half := half) h (fun ca w g h => ⟨_, _, rfl, ?_⟩) (fun w g h => ⟨_, _, rfl, ?_⟩)
  · refine troveref5_New.c (half := half) h (fun cb w g h => ⟨_, _, rfl, ?_⟩) (fun w g' h => absurd g g')
    unfold trovelaw5_HuffReads.j3
    refine br_f1 (br_f1 ?_)
    unfold trovelaw5_HuffReads.j8
    refine br_f1 ?_
    unfold trovelaw5_HuffReads.j4
    refine bits_NewReader.d (s := t) h (fun x h => wf_u8 (hx x h)) (by omega) fun V ra w hV h => ⟨_, rfl, ?_⟩
    generalize hN : xs.length = N at hV h hlt
    subst hV
    refine h.new fun rb w h => ?_
    have h : St [] W w [bitR rb (t, 0), bitA ra (V, N, 0), hrA cb ls, hcA ca ls] := h
    unfold trovelaw5_HuffReads.j5 trovelaw5_HuffReads.j7
    refine loop1 (fun (a : Nat × Nat) (i' : Int) w' => i' = a.1 ∧ a.1 ≤ 2000 ∧ a.2 ≤ 8 * N ∧ St [] W w' [bitR rb (t, a.2), bitA ra (V, N, a.2), hrA cb ls, hcA ca ls]) (fun a => 2000 - a.1) (0, 0) ⟨rfl, by simp, by simp, h⟩ ?_
    clear h
    rintro ⟨i, p⟩ i' w I μ ⟨rfl, hi, hp, h⟩ hin
    simp only at hi hp h hin ⊢
    unfold trovelaw5_HuffReads.b1
    clear hl hx
    refine br_d ?_ ?_
    rotate_left
    · intro g3
      unfold trovelaw5_HuffReads.j6
      exact ⟨rfl, h.mod⟩
    intro g3
    refine huff_Code_Next.d h (by omega) hp fun w hq h => ⟨_, _, rfl, ?_⟩
    refine troveref5_Code_Next.d (V := V) (N := N) h (by omega) hp fun w _ h => ⟨_, _, rfl, ?_⟩
    refine br_no (by simp) (br_no (by simp) ?_)
    refine br_b (fun _ => ⟨rfl, h.mod⟩) (fun g4 => ?_)
    generalize (hnext ls (bitsOf V (8 * N)) p).2.2 = q at hq h
    have h : St [] W w (rrA ra V N q :: rfA rb t q :: [hrA cb ls, hcA ca ls]) := h.at1
    refine bits_Reader_Left.c h (by omega) (by omega) fun w h => ⟨_, rfl, ?_⟩
    refine troveref2_Reader_Left.c h.at1 (by omega) (by omega) fun w h => ⟨_, rfl, ?_⟩
    refine br_no (by simp; omega) ?_
    refine lt_as (wrap_i64 (by omega) (by omega)) ?_
    exact ⟨⟨rfl, rfl, rfl, rfl⟩, hin (i + 1, q) _ _ ⟨by simp, by simp only; omega, hq, h⟩ (by simp only; omega)⟩
  · refine troveref5_New.c (half := half) h (fun cb w g' h => absurd g' g) (fun w g' h => ⟨_, _, rfl, ?_⟩)
    unfold trovelaw5_HuffReads.j3
    refine br_no (by simp) (br_is (by simpa using g) ?_)
    unfold trovelaw5_HuffReads.j8
    refine br_t1 (br_is (by simp) ?_)
    have e : (Option.isNone (none : Option Addr) == (hnew ls half != 0)) = true := by
      rw [show (hnew ls half != 0) = true by simpa using g]
      rfl
    rw [e]
    exact ⟨rfl, h.mod⟩

end Go.Proofs.Ytkajimndclhgaaa
