/- Huffman codes: the statements on words, on symbols there and back. Own work. -/
import Derived.Test.YtkajimndclhgaaaHuffD
namespace Go.Proofs.Ytkajimndclhgaaa
open Go Go.Proofs
set_option linter.unusedVariables false
set_option linter.unusedSimpArgs false
attribute [local irreducible] apK cpK mkK br

theorem bitsOf_no (k : Nat) : bitsOf 0 k = List.replicate k false := by
  unfold bitsOf
  apply List.ext_getElem
  · simp
  · intro i h1 h2
    simp [bt]

/-- the bits of a row's bytes: the row, and noughts behind -/
theorem bitsOf_ext (l : List Bool) {n : Nat} (h : l.length ≤ n) : bitsOf (val l : Nat) n = l ++ List.replicate (n - l.length) false := by
  have e : n = l.length + (n - l.length) := by omega
  conv => lhs; rw [e]
  rw [bitsOf_add, bitsOf_val]
  congr 1
  have h2 := val_lt l
  have : ((val l : Nat) : Int) / 2 ^ l.length = 0 := by
    have e2 : ((val l : Nat) : Int) / 2 ^ l.length = ((val l / 2 ^ l.length : Nat) : Int) := by simp
    rw [e2, Nat.div_eq_of_lt h2]; rfl
  rw [this, bitsOf_no]

theorem drop_take_app {a b c : List Bool} {p m : Nat} (hp : a.length = p) (hm : b.length = m) : ((a ++ (b ++ c)).drop p).take m = b := by
  subst hp hm
  rw [List.drop_left' rfl, List.take_left' rfl]

/-! ### a word of one symbol -/

theorem one_code (s : Nat) (hs : s ≤ 280) : okL (List.replicate s 0 ++ [1]) ∧ hchk (List.replicate s 0 ++ [1]) = (false, 0) ∧ hnew (List.replicate s 0 ++ [1]) true = 0 ∧ hcode (List.replicate s 0 ++ [1]) s = 0 ∧ hlong (List.replicate s 0 ++ [1]) 15 = 1 ∧ (List.replicate s 0 ++ [1] : List Int).getD s 0 = 1 ∧ hf (List.replicate s 0 ++ [1]) 1 + hc (List.replicate s 0 ++ [1]) 1 = 1 := by
  have ok0 : okL (List.replicate s 0) := fun x hx => by rw [List.eq_of_mem_replicate hx]; decide
  have ok : okL (List.replicate s 0 ++ [1]) := fun x hx => by
    rcases List.mem_append.1 hx with hx | hx
    · exact ok0 x hx
    · rw [List.mem_singleton.1 hx]; decide
  have kr0 : ∀ s, kr (List.replicate s 0) = 0 := by
    intro s
    induction s with
    | zero => rfl
    | succ s ih => rw [List.replicate_succ', kr_snoc, ih]; rfl
  have k1 : kr (List.replicate s 0 ++ [1]) = 16384 := by rw [kr_snoc, kr0]; rfl
  have c1 : hchk (List.replicate s 0 ++ [1]) = (false, 0) := by
    unfold hchk
    rw [if_neg (by simp; omega), if_neg (fun e => e ok), k1]
    rfl
  have gs : (List.replicate s 0 ++ [1] : List Int).getD s 0 = 1 := by simp [List.getD]
  have hn : hnew (List.replicate s 0 ++ [1]) true = 0 := by
    unfold hnew
    rw [c1, hhalf_eq ok, List.filter_append, List.sum_append]
    have : (List.replicate s (0 : Int)).filter (0 < ·) = [] := List.filter_eq_nil_iff.2 fun a ha => by rw [List.eq_of_mem_replicate ha]; decide
    rw [this]
    rfl
  have cnt0 : (List.replicate s (0 : Int)).count ((1 : Nat) : Int) = 0 := List.count_eq_zero.2 fun h => by have := List.eq_of_mem_replicate h; omega
  have hcd : hcode (List.replicate s 0 ++ [1]) s = 0 := by
    rw [hcode_eq (m := 1) gs (by decide)]
    have : (List.replicate s (0 : Int) ++ [1]).take s = List.replicate s 0 := List.take_left' (by simp)
    rw [this]
    unfold hc
    rw [if_neg (by decide), cnt0]
    simp [hf, hc]
  have hl := hlong_le (List.replicate s 0 ++ [1]) 15 (by decide)
  have h1 : ¬ 1 < hlong (List.replicate s 0 ++ [1]) 15 := by
    intro h
    obtain ⟨x, hx, hx2⟩ := (hlong_some ok (n := 1) (by decide)).2 h
    rcases List.mem_append.1 hx with hx | hx
    · rw [List.eq_of_mem_replicate hx] at hx2; exact absurd hx2 (by decide)
    · rw [List.mem_singleton.1 hx] at hx2; exact absurd hx2 (by decide)
  have hfc : hf (List.replicate s 0 ++ [1]) 1 + hc (List.replicate s 0 ++ [1]) 1 = 1 := by
    have : hc (List.replicate s 0 ++ [1]) 1 = 1 := by
      rw [hc_snoc]
      unfold hc
      rw [if_neg (by decide), cnt0]
      rfl
    rw [this]
    simp [hf, hc]
  exact ⟨ok, c1, hn, hcd, by omega, gs, hfc⟩

theorem trovelaw5_HuffWords.law (n d : Int) (W : World) (hn : (Lit.int .i64 n).wf = true) (hd : (Lit.int .i64 d).wf = true) :
    Calls Try.prog 23 ⟨[.int .i64 n, .int .i64 d]⟩ W fun e w' => e = .returned (.bool true) ∧ Mod [] W w' := by
  refine ret_k (trovelaw5_HuffWords.ok _ _ _ _ ?_)
  unfold trovelaw5_HuffWords
  refine trovelaw5_known.c (St.start0 (w := W)) fun w h => ⟨_, rfl, br_f1 ?_⟩
  unfold trovelaw5_HuffWords.j1
  refine br_d (fun _ => ⟨rfl, h.mod⟩) fun g1 => ?_
  refine br_d (fun _ => ⟨rfl, h.mod⟩) fun g2 => ?_
  refine br_d (fun _ => ⟨rfl, h.mod⟩) fun g3 => ?_
  refine br_d (fun _ => ⟨rfl, h.mod⟩) fun g4 => ?_
  obtain ⟨n, rfl⟩ : ∃ t : Nat, n = t := ⟨n.toNat, by omega⟩
  obtain ⟨s, rfl⟩ : ∃ t : Nat, d = t := ⟨d.toNat, by omega⟩
  refine lt_as (wrap_i64 (by omega) (by omega)) ?_
  refine h.makeI (n := s + 1) (by omega) (by omega) (by omega) fun t w h1 h2 h => ?_
  unfold trovelaw5_HuffWords.j2
  refine h.sx s rfl (by simp) fun w h => ?_
  have es : (List.replicate (s + 1) (0 : Int)).set s 1 = List.replicate s 0 ++ [1] := by
    have := set_nx (l := List.replicate s (0 : Int)) (k := 1) (i := s) (v := 1) (by simp) (by decide)
    rw [List.replicate_append_replicate] at this
    simpa using this
  rw [es] at h
  obtain ⟨ok, c1, hnw, hcd, hlg, gs, hfc⟩ := one_code s (by omega)
  have hlen : (List.replicate s 0 ++ [1] : List Int).length = s + 1 := by simp
  generalize hls : (List.replicate s 0 ++ [1] : List Int) = ls at h ok c1 hnw hcd hlg gs hfc hlen
  refine huff_New.c (half := true) h (fun cb w _ h => ⟨_, _, rfl, ?_⟩) (fun w g h => absurd hnw g)
  unfold trovelaw5_HuffWords.j3
  refine br_f1 (br_f1 ?_)
  refine bits_NewWriter.c h fun wb w h => ⟨_, rfl, ?_⟩
  have h : St [] W w [wrL wb [], hcA cb ls] := h.sub
  have p1 : hput ls (s : Int) = [false] := by
    unfold hput
    rw [if_pos ⟨by omega, by omega, by rw [Int.toNat_natCast, gs]; decide⟩, Int.toNat_natCast, hcd, gs]
    rfl
  have p2 : hputs ls (s : Int) = true := by
    unfold hputs
    exact decide_eq_true ⟨by omega, by omega, by rw [Int.toNat_natCast, gs]; decide⟩
  have p3 : hput ls ((s : Int) + 1) = [] := by
    unfold hput
    rw [if_neg (by omega)]
  have p4 : hputs ls ((s : Int) + 1) = false := by
    unfold hputs
    exact decide_eq_false (by omega)
  unfold trovelaw5_HuffWords.j4 trovelaw5_HuffWords.j9
  refine loop1 (fun (i : Nat) (i' : Int) w' => i' = i ∧ i ≤ n ∧ St [] W w' [wrL wb (List.replicate i false), hcA cb ls]) (fun i => n - i) 0 ⟨rfl, by omega, h⟩ ?_
  clear h
  rintro i i' w I μ ⟨rfl, hi, h⟩ hin
  unfold trovelaw5_HuffWords.b2
  refine br_d (fun g5 => ?_) (fun g5 => ?_)
  · refine huff_Code_Put.c h (by simp; omega) fun w h => ⟨_, rfl, ?_⟩
    rw [p1, ← List.replicate_succ'] at h
    rw [p2]
    refine br_f1 ?_
    refine lt_as (wrap_i64 (by omega) (by omega)) ?_
    refine huff_Code_Put.c h (by simp; omega) fun w h => ⟨_, rfl, ?_⟩
    rw [p3, List.append_nil] at h
    rw [p4]
    refine br_f1 ?_
    refine lt_as (wrap_i64 (by omega) (by omega)) ?_
    exact ⟨⟨rfl, rfl, rfl, rfl⟩, hin (i + 1) _ _ ⟨by omega, by omega, h⟩ (by omega)⟩
  have : i = n := by omega
  subst this
  clear hin
  unfold trovelaw5_HuffWords.j5
  refine bits_Writer_Put.cl h (by simp; omega) fun w h => ⟨rfl, ?_⟩
  have epb : pb 1 1 = [true] := by decide
  rw [epb] at h
  have hbl : (List.replicate i false ++ [true]).length = i + 1 := by simp
  refine bits_Writer_Done.c h (by rw [hbl]; omega) fun r w hr1 hr2 h => ⟨r, rfl, ?_⟩
  refine bits_NewReader.c (V := val (List.replicate i false ++ [true])) (N := ((List.replicate i false ++ [true]).length + 7) / 8) h h.rd (by rw [hbl]; omega) fun rb w h => ⟨_, rfl, ?_⟩
  have hbx := bitsOf_ext (List.replicate i false ++ [true]) (n := 8 * (((List.replicate i false ++ [true]).length + 7) / 8)) (by omega)
  have h : St [] W w [bitA rb (val (List.replicate i false ++ [true]), ((List.replicate i false ++ [true]).length + 7) / 8, 0), hcA cb ls] := St.sub (ps := bitA rb (val (List.replicate i false ++ [true]), ((List.replicate i false ++ [true]).length + 7) / 8, 0) :: _) h
  generalize hV : val (List.replicate i false ++ [true]) = V at h hbx
  generalize hN : ((List.replicate i false ++ [true]).length + 7) / 8 = N at h hbx
  have hN2 : i + 1 ≤ 8 * N ∧ N ≤ 100 := by rw [hbl] at hN; omega
  unfold trovelaw5_HuffWords.j6 trovelaw5_HuffWords.j8
  refine loop1 (fun (k : Nat) (k' : Int) w' => k' = k ∧ k ≤ i ∧ St [] W w' [bitA rb (V, N, k), hcA cb ls]) (fun k => i - k) 0 ⟨rfl, by omega, h⟩ ?_
  clear h
  rintro k k' w I μ ⟨rfl, hk, h⟩ hin
  unfold trovelaw5_HuffWords.b1
  refine br_d (fun g6 => ?_) (fun g6 => ?_)
  · have hx : hnext ls (bitsOf V (8 * N)) k = ((s : Int), 0, k + 1) := by
      refine hnext_code (m := 1) ok (by omega) gs (by decide) ?_ (by rw [hcd]; decide)
      rw [hcd, hbx]
      have e : List.replicate i false ++ [true] ++ List.replicate (8 * N - (List.replicate i false ++ [true]).length) false = List.replicate k false ++ ([false] ++ (List.replicate (i - k - 1) false ++ ([true] ++ List.replicate (8 * N - (List.replicate i false ++ [true]).length) false))) := by
        have : List.replicate i false = List.replicate k false ++ ([false] ++ List.replicate (i - k - 1) false) := by
          rw [← List.replicate_one, List.replicate_append_replicate, List.replicate_append_replicate]
          congr 1; omega
        rw [this]
        simp
      rw [e]
      exact drop_take_app (by simp) rfl
    refine huff_Code_Next.d (V := V) (N := N) h (by omega) (by omega) fun w _ h => ⟨_, _, rfl, ?_⟩
    rw [hx] at h ⊢
    refine br_no (by simp) (br_no rfl ?_)
    refine lt_as (wrap_i64 (by omega) (by omega)) ?_
    exact ⟨⟨rfl, rfl, rfl, rfl⟩, hin (k + 1) _ _ ⟨by omega, by omega, h⟩ (by omega)⟩
  · have : k = i := by omega
    have h0 := h
    subst this
    unfold trovelaw5_HuffWords.j7
    have hx : hnext ls (bitsOf V (8 * N)) k = (0, 2, k + 1) := by
      unfold hnext
      rw [hlg, hdec, hbx]
      have : (List.replicate k false ++ [true] ++ List.replicate (8 * N - (List.replicate k false ++ [true]).length) false)[k]? = some true := by
        rw [List.append_assoc, List.getElem?_append_right (by simp)]
        simp
      rw [this]
      simp only
      rw [if_neg (by rw [hfc]; decide), hdec]
    refine huff_Code_Next.d (V := V) (N := N) (p := k) h0 (by omega) (by omega) fun w _ h => ⟨_, _, rfl, ?_⟩
    rw [hx]
    exact ⟨rfl, h.mod⟩

/-! ### symbols there and back -/

def okSym (ls : List Int) (s : Int) : Bool := hputs ls s
def putL2 (ls ss : List Int) : List Int := ss.filter (hputs ls)
def wordL (ls qs : List Int) : List Bool := qs.flatMap (hput ls)

theorem hput_no {ls : List Int} {s : Int} (h : hputs ls s = false) : hput ls s = [] := by
  unfold hputs at h
  unfold hput
  rw [if_neg (by simpa using h)]

theorem costN_set {ls cs : List Int} {j : Nat} (hj : j < cs.length) : ∀ n, costN ls (cs.set j (cs.getD j 0 + 1)) n = costN ls cs n + if j < n then ls.getD j 0 else 0 := by
  intro n
  induction n with
  | zero => simp [costN]
  | succ n ih =>
    rw [costN, costN, ih, getD_setL hj]
    by_cases h : j = n
    · subst h
      rw [if_pos rfl, if_neg (by omega), if_pos (by omega), Int.add_mul]
      omega
    · rw [if_neg h]
      by_cases h2 : j < n
      · rw [if_pos h2, if_pos (by omega)]; omega
      · rw [if_neg h2, if_neg (by omega)]; omega

theorem trovelaw5_HuffBack.law (s t : Sl) (ls ss : List Int) (W : World) (hr : Rd W 1 s (ivs .i64 ls)) (hr2 : Rd W 1 t (ivs .i64 ss)) (_ : ∀ n ∈ ls, (Lit.int .i64 n).wf = true) (_ : ∀ n ∈ ss, (Lit.int .i64 n).wf = true) :
    Calls Try.prog 24 ⟨[.slice s.a s.len s.cap, .slice t.a t.len t.cap]⟩ W fun e w' => e = .returned (.bool true) ∧ Mod [] W w' := by
  refine ret_k (trovelaw5_HuffBack.ok _ _ _ _ ?_)
  unfold trovelaw5_HuffBack
  have hl1 := hr.1
  have hl2 := hr2.1
  rw [ivs_length] at hl1 hl2
  haveI : ∀ ps, Rdb [] W s ps 1 (ivs .i64 ls) := fun ps => Rdb.start hr
  haveI : ∀ ps, Rdb [] W t ps 1 (ivs .i64 ss) := fun ps => Rdb.start hr2
  refine trovelaw5_known.c (St.start0 (w := W)) fun w h => ⟨_, rfl, br_f1 ?_⟩
  unfold trovelaw5_HuffBack.j1
  refine br_d (fun _ => ⟨rfl, h.mod⟩) fun g1 => ?_
  refine br_d (fun _ => ⟨rfl, h.mod⟩) fun g2 => ?_
  refine huff_New.c (half := true) h (fun cb w g h => ⟨_, _, rfl, ?_⟩) (fun w g h => ⟨_, _, rfl, ?_⟩)
  rotate_left
  · unfold trovelaw5_HuffBack.j2
    refine br_is (by simpa using g) ?_
    exact ⟨rfl, h.mod⟩
  obtain ⟨hok, hkr, hlen, _⟩ := hchk_ok (hnew_ok g)
  unfold trovelaw5_HuffBack.j2
  refine br_f1 (br_f1 ?_)
  refine bits_NewWriter.c h fun wb w h => ⟨_, rfl, ?_⟩
  unfold trovelaw5_HuffBack.j3
  refine h.makeI (n := ls.length) (by omega) (by omega) (by omega) fun c w _ _ h => ?_
  have h : St [] W w [wrL wb [], ownA 1 c (ivs .i64 (List.replicate ls.length 0)), ownA 1 ⟨none, 0, 0⟩ (ivs .i64 []), hcA cb ls] := St.sub (ps := ownA 1 ⟨none, 0, 0⟩ (ivs .i64 []) :: _) (h.nil 1)
  unfold trovelaw5_HuffBack.j4 trovelaw5_HuffBack.j9
  have smallN : ∀ q : List Int, q.length ≤ 300 → (wordL ls q).length ≤ 15 * q.length := by
    intro q _
    induction q with
    | nil => simp [wordL]
    | cons x q ih =>
      have := ih (by simp at *; omega)
      have e : wordL ls (x :: q) = hput ls x ++ wordL ls q := by simp [wordL]
      rw [e, List.length_append, List.length_cons]
      have : (hput ls x).length ≤ 15 := by
        unfold hput
        split
        · rename_i hc
          rw [cbits_length]
          have := hok _ (mem_getD (show x.toNat < ls.length by omega))
          omega
        · simp
      omega
  refine loop2 (fun (a : Nat × List Int × List Int) (p : Sl) (i' : Int) w' => i' = a.1 ∧ a.1 ≤ ss.length ∧ a.2.2.length ≤ a.1 ∧ (∀ x ∈ a.2.2, hputs ls x = true) ∧ a.2.1.length = ls.length ∧ (∀ x ∈ a.2.1, 0 ≤ x ∧ x ≤ (a.1 : Int)) ∧ ((wordL ls a.2.2).length : Int) = costN ls a.2.1 ls.length ∧
      St [] W w' [wrL wb (wordL ls a.2.2), ownA 1 c (ivs .i64 a.2.1), ownA 1 p (ivs .i64 a.2.2), hcA cb ls]) (fun a => ss.length - a.1) (0, List.replicate ls.length 0, [])
      ⟨rfl, by simp, by simp, by simp, by simp, by intro x hx; rw [List.eq_of_mem_replicate hx]; simp, by
        have : ∀ m n, costN ls (List.replicate m 0) n = 0 := by
          intro m n
          induction n with
          | zero => rfl
          | succ n ih =>
            rw [costN, ih]
            have : (List.replicate m (0 : Int)).getD n 0 = 0 := by
              rw [List.getD_eq_getElem?_getD, List.getElem?_replicate]
              split <;> rfl
            rw [this]; simp
        rw [this]; rfl, h⟩ ?_
  clear h
  rintro ⟨i, cs, qs⟩ p i' w I μ ⟨rfl, hi, hql, hqs, hcl, hcs, hco, h⟩ hin
  simp only at hi hql hqs hcl hcs hco h hin ⊢
  unfold trovelaw5_HuffBack.b2
  refine br_d (fun g3 => ?_) (fun g3 => ?_)
  · have his : i < ss.length := by omega
    unfold trovelaw5_HuffBack.j10
    have hwl := smallN qs (by omega)
    refine h.lx (s := t) i rfl his ?_
    generalize ss.getD i 0 = x
    have main : ∀ b, b = hputs ls x → trovelaw5_HuffBack.j12 s t (some ⟨cb, 0, none⟩) (some ⟨wb, 0, none⟩) c p (i : Int) x b (fun v w' => Ending.returned v = .returned (.bool true) ∧ Mod [] W w')
        (fun d_0' i_1' t5' t7' t8' t9' t10' w' => (d_0' = s ∧ i_1' = t ∧ t5' = some ⟨cb, 0, none⟩ ∧ t7' = some ⟨wb, 0, none⟩ ∧ t8' = c) ∧ I t9' t10' w' ∧ μ t9' t10' w' < μ p (i : Int) w) w := by
      intro b hb
      subst hb
      unfold trovelaw5_HuffBack.j12
      refine huff_Code_Put.c h (by omega) fun w h => ⟨_, rfl, ?_⟩
      refine br_no (by simp) ?_
      refine br_b (fun g4 => ?_) (fun g4 => ?_)
      · have hcond : 0 ≤ x ∧ x < ls.length ∧ ls.getD x.toNat 0 ≠ 0 := by
          unfold hputs at g4
          simpa using g4
        obtain ⟨m, rfl⟩ : ∃ m : Nat, x = m := ⟨x.toNat, by omega⟩
        rw [Int.toNat_natCast] at hcond
        refine h.pushI (s := p) (by omega) fun p2 w h => ?_
        refine h.lx (s := c) m rfl (by omega) ?_
        have hcm := hcs _ (mem_getD (xs := cs) (i := m) (by omega))
        refine lt_as (wrap_i64 (by omega) (by omega)) ?_
        refine h.sx (s := c) m rfl (by omega) fun w h => ?_
        unfold trovelaw5_HuffBack.j11
        refine lt_as (wrap_i64 (by omega) (by omega)) ?_
        have ew : wordL ls qs ++ hput ls (m : Int) = wordL ls (qs ++ [(m : Int)]) := by simp [wordL]
        rw [ew] at h
        refine ⟨⟨rfl, rfl, rfl, rfl, rfl⟩, hin (i + 1, cs.set m (cs.getD m 0 + 1), qs ++ [(m : Int)]) _ _ _ ⟨by simp, by simp only; omega, by simp; omega, ?_, by simp [hcl], ?_, ?_, h.sub⟩ (by simp only; omega)⟩
        · intro y hy
          rcases List.mem_append.1 hy with hy | hy
          · exact hqs y hy
          · rw [List.mem_singleton.1 hy]; exact g4
        · intro y hy
          simp only
          rcases List.mem_or_eq_of_mem_set hy with hy | hy
          · have := hcs y hy; omega
          · omega
        · simp only
          have e1 : (wordL ls (qs ++ [(m : Int)])).length = (wordL ls qs).length + (ls.getD m 0).toNat := by
            rw [← ew, List.length_append]
            unfold hput
            rw [Int.toNat_natCast, if_pos hcond, cbits_length]
          rw [e1, costN_set (by omega), if_pos (by omega)]
          have := hok _ (mem_getD (show m < ls.length by omega))
          omega
      · have e0 := hput_no g4
        rw [e0, List.append_nil] at h
        unfold trovelaw5_HuffBack.j11
        refine lt_as (wrap_i64 (by omega) (by omega)) ?_
        refine ⟨⟨rfl, rfl, rfl, rfl, rfl⟩, hin (i + 1, cs, qs) _ _ _ ⟨by simp, by simp only; omega, by simp only; omega, hqs, hcl, fun y hy => ?_, hco, h⟩ (by simp only; omega)⟩
        have := hcs y hy
        simp only; omega
    refine br_d (fun g4 => ?_) (fun g4 => main false ?_)
    · refine br_d (fun g5 => ?_) (fun g5 => main false ?_)
      · have hxl : x.toNat < ls.length := by omega
        refine h.lx (s := s) x.toNat (by omega) hxl ?_
        refine main _ ?_
        unfold hputs
        have := hok _ (mem_getD hxl)
        apply decide_eq_decide.2
        constructor
        · intro e; exact ⟨by omega, by omega, by omega⟩
        · intro e; omega
      · unfold hputs; exact (decide_eq_false (by omega)).symm
    · unfold hputs; exact (decide_eq_false (by omega)).symm
  have hwl := smallN qs (by omega)
  clear hin
  unfold trovelaw5_HuffBack.j5
  have smc : smallC cs := fun x hx => by have := hcs x hx; omega
  have hmin : min ls.length cs.length = ls.length := by omega
  refine bits_Writer_Len.c h (by omega) fun w h => ⟨_, rfl, ?_⟩
  refine huff_Code_Cost.c (s := c) h smc fun w h => ⟨_, rfl, ?_⟩
  rw [hmin]
  refine br_no (by simp [hco]) ?_
  refine huff_Code_Cost.c (s := c) h smc fun w h => ⟨_, rfl, ?_⟩
  refine troveref5_Cost.c (s1 := s) (s := c) h hok hlen smc fun w h => ⟨_, rfl, ?_⟩
  refine br_no (by simp) ?_
  refine bits_Writer_Done.c h (by omega) fun r w hr1 hr2 h => ⟨r, rfl, ?_⟩
  refine bits_NewReader.c (V := val (wordL ls qs)) (N := ((wordL ls qs).length + 7) / 8) h h.rd (by omega) fun rb w h => ⟨_, rfl, ?_⟩
  have hbx := bitsOf_ext (wordL ls qs) (n := 8 * (((wordL ls qs).length + 7) / 8)) (by omega)
  have h : St [] W w [bitA rb (val (wordL ls qs), ((wordL ls qs).length + 7) / 8, 0), ownA 1 p (ivs .i64 qs), hcA cb ls] := St.sub (ps := bitA rb (val (wordL ls qs), ((wordL ls qs).length + 7) / 8, 0) :: _) h
  have hpl := h.at1.len
  rw [ivs_length] at hpl
  generalize hV : val (wordL ls qs) = V at h hbx
  generalize hN : ((wordL ls qs).length + 7) / 8 = N at h hbx
  have hN2 : (wordL ls qs).length ≤ 8 * N ∧ N ≤ 1000 := by omega
  unfold trovelaw5_HuffBack.j6 trovelaw5_HuffBack.j8
  refine loop1 (fun (k : Nat) (k' : Int) w' => k' = k ∧ k ≤ qs.length ∧ St [] W w' [bitA rb (V, N, (wordL ls (qs.take k)).length), ownA 1 p (ivs .i64 qs), hcA cb ls]) (fun k => qs.length - k) 0 ⟨rfl, by omega, h⟩ ?_
  clear h
  rintro k k' w I μ ⟨rfl, hk, h⟩ hin
  unfold trovelaw5_HuffBack.b1
  have hsplit : wordL ls qs = wordL ls (qs.take k) ++ wordL ls (qs.drop k) := by
    unfold wordL
    rw [← List.flatMap_append, List.take_append_drop]
  have hple : (wordL ls (qs.take k)).length ≤ (wordL ls qs).length := by rw [hsplit, List.length_append]; omega
  refine br_d (fun g6 => ?_) (fun g6 => ?_)
  · have hkq : k < qs.length := by omega
    have hq := hqs _ (mem_getD hkq)
    have hcond : 0 ≤ qs.getD k 0 ∧ qs.getD k 0 < ls.length ∧ ls.getD (qs.getD k 0).toNat 0 ≠ 0 := by
      unfold hputs at hq
      simpa using hq
    have hd2 := drop_sn hkq
    have htk := take_sn hkq
    generalize qs.getD k 0 = x at hq hcond hd2 htk
    obtain ⟨m, rfl⟩ : ∃ m : Nat, x = m := ⟨x.toNat, by omega⟩
    rw [Int.toNat_natCast] at hcond
    have hx2 := hok _ (mem_getD (show m < ls.length by omega))
    obtain ⟨b, hb⟩ : ∃ b : Nat, ls.getD m 0 = b := ⟨(ls.getD m 0).toNat, by omega⟩
    have hpe : hput ls (m : Int) = cbits (hcode ls m) b := by
      unfold hput
      rw [Int.toNat_natCast, if_pos hcond, hb, Int.toNat_natCast]
    have hx : hnext ls (bitsOf V (8 * N)) (wordL ls (qs.take k)).length = ((m : Int), 0, (wordL ls (qs.take k)).length + b) := by
      refine hnext_code hok (by omega) hb (by omega) ?_ (hcode_size hok hkr (by omega) hb (by omega))
      rw [hbx, hsplit, hd2]
      have e : wordL ls ((m : Int) :: qs.drop (k + 1)) = cbits (hcode ls m) b ++ wordL ls (qs.drop (k + 1)) := by
        rw [← hpe]; simp [wordL]
      rw [e, List.append_assoc, List.append_assoc]
      exact drop_take_app rfl (cbits_length _ _)
    refine huff_Code_Next.d (V := V) (N := N) h (by omega) (by omega) fun w _ h => ⟨_, _, rfl, ?_⟩
    rw [hx] at h ⊢
    refine h.lx (s := p) k rfl hkq ?_
    have hgk : qs.getD k 0 = (m : Int) := by
      have := congrArg (fun l => l.getD 0 0) hd2
      simp only [List.getD_eq_getElem?_getD, List.getElem?_drop] at this
      rw [List.getD_eq_getElem?_getD]
      simpa using this
    rw [hgk]
    refine br_no (by simp) (br_no rfl ?_)
    refine lt_as (wrap_i64 (by omega) (by omega)) ?_
    refine ⟨⟨rfl, rfl, rfl⟩, hin (k + 1) _ _ ⟨by omega, by omega, ?_⟩ (by omega)⟩
    have e : (wordL ls (qs.take (k + 1))).length = (wordL ls (qs.take k)).length + b := by
      rw [htk]
      have : wordL ls (qs.take k ++ [(m : Int)]) = wordL ls (qs.take k) ++ hput ls (m : Int) := by simp [wordL]
      rw [this, hpe, List.length_append, cbits_length]
    rw [e]
    exact h
  · unfold trovelaw5_HuffBack.j7
    exact ⟨rfl, h.mod⟩

end Go.Proofs.Ytkajimndclhgaaa
