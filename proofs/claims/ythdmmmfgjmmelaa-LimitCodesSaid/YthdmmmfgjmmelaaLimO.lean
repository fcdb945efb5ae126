/- Best codes: a row of symbols is written in just the bits that it costs. Own work. -/
import Derived.Test.YthdmmmfgjmmelaaLimX
namespace Go.Proofs.Ythdmmmfgjmmelaa
open Go Go.Proofs
set_option linter.unusedVariables false
set_option linter.unusedSimpArgs false
attribute [local irreducible] apK cpK mkK br

/-- how often each of 256 symbols comes -/
def hist (r : List Int) : List Int := mapR 256 fun i => ((r.map Int.toNat).count i : Int)
theorem hist_length (r : List Int) : (hist r).length = 256 := mapR_length _ _
theorem hist_get (r : List Int) {i : Nat} (h : i < 256) : (hist r).getD i 0 = ((r.map Int.toNat).count i : Int) := getD_mapR (f := fun i => ((r.map Int.toNat).count i : Int)) h
theorem hist_snoc (r : List Int) {x : Int} (h0 : 0 ≤ x) (h1 : x < 256) : (hist r).set x.toNat ((hist r).getD x.toNat 0 + 1) = hist (r ++ [x]) := by
  rw [hist_get r (by omega)]
  unfold hist
  rw [set_mapR]
  refine mapR_congr fun i hi => ?_
  rw [List.map_append, List.count_append]
  by_cases e : i = x.toNat
  · rw [if_pos e, e]; simp
  · rw [if_neg e]
    have : (([x].map Int.toNat).count i) = 0 := List.count_eq_zero.2 (by simpa using e)
    rw [this]; simp
theorem hist_good {r : List Int} (hl : r.length ≤ 600) : goodX (hist r) := by
  refine ⟨by rw [hist_length]; decide, fun x hx => ?_⟩
  obtain ⟨i, hi, rfl⟩ := List.mem_iff_getElem.1 hx
  have e : (hist r)[i] = (hist r).getD i 0 := by rw [List.getD, List.getElem?_eq_getElem hi]; rfl
  rw [hist_length] at hi
  rw [e, hist_get r hi]
  have := List.count_le_length (a := i) (l := r.map Int.toNat)
  rw [List.length_map] at this
  unfold badN
  omega
theorem costN_dot (ls cs : List Int) : ∀ n, costN ls cs n = dotN ls cs n := by
  intro n
  induction n with
  | zero => rfl
  | succ n ih => rw [costN, dotN_succ, ih, Int.mul_comm]
theorem word_cost {ls r : List Int} (hr : ∀ x ∈ r, 0 ≤ x ∧ x < 256) (hl : ls.length = 256) (hp : ∀ x ∈ r, 0 < ls.getD x.toNat 0) : ((wordL ls r).length : Int) = dotN ls (hist r) 256 := by
  have h1 : ((wordL ls r).length : Int) = ((r.map Int.toNat).map fun i => ls.getD i 0).sum := by
    induction r with
    | nil => rfl
    | cons x r ih =>
      have hx := hr x (by simp)
      have hx2 := hp x (by simp)
      have e : wordL ls (x :: r) = hput ls x ++ wordL ls r := by simp [wordL]
      rw [e, List.length_append, List.map_cons, List.map_cons, List.sum_cons, ← ih (fun y hy => hr y (by simp [hy])) (fun y hy => hp y (by simp [hy]))]
      unfold hput
      rw [if_pos ⟨hx.1, by omega, by omega⟩, cbits_length]
      omega
  rw [h1, ← sum_count (fun i => ls.getD i 0) 256 (r.map Int.toNat) (fun s hs => by
    obtain ⟨x, hx, rfl⟩ := List.mem_map.1 hs
    have := hr x hx
    omega)]
  unfold dotN
  congr 1
  refine List.map_congr_left fun i hi => ?_
  rw [hist_get r (List.mem_range.1 hi), Int.mul_comm]

theorem trovelaw6_LimitCodes.law (s : Sl) (m : Int) (xs : List Int) (W : World) (hr : Rd W 1 s (u8s xs)) (hx : ∀ n ∈ xs, (Lit.int .u8 n).wf = true) (hm : (Lit.int .i64 m).wf = true) :
    Calls Try.prog 5 ⟨[.slice s.a s.len s.cap, .int .i64 m]⟩ W fun e w' => e = .returned (.bool true) ∧ Mod [] W w' := by
  refine ret_k (trovelaw6_LimitCodes.ok _ _ _ _ ?_)
  unfold trovelaw6_LimitCodes
  have hl1 := hr.1
  rw [ivs_length] at hl1
  have hb : ∀ x ∈ xs, 0 ≤ x ∧ x < 256 := fun x h => wf_u8 (hx x h)
  haveI : ∀ ps, Rdb [] W s ps 1 (u8s xs) := fun ps => Rdb.start hr
  refine trovelaw6_known.c (St.start0 (w := W)) fun w h => ⟨_, rfl, br_f1 ?_⟩
  unfold trovelaw6_LimitCodes.j1
  refine br_b (fun _ => ⟨rfl, h.mod⟩) fun g1 => ?_
  have g1 : (s.len : Int) ≠ 0 := by simpa using g1
  refine br_d (fun _ => ⟨rfl, h.mod⟩) fun g2 => ?_
  refine br_d (fun _ => ⟨rfl, h.mod⟩) fun g3 => ?_
  refine br_d (fun _ => ⟨rfl, h.mod⟩) fun g4 => ?_
  obtain ⟨M, rfl⟩ : ∃ M : Nat, m = M := ⟨m.toNat, by omega⟩
  have hM8 : 2 ^ 8 ≤ 2 ^ M := Nat.pow_le_pow_right (by decide) (by omega)
  rw [show (2 : Nat) ^ 8 = 256 from rfl] at hM8
  refine h.makeI (n := 256) rfl rfl (by omega) fun c w hc hcc h => ?_
  unfold trovelaw6_LimitCodes.j2 trovelaw6_LimitCodes.j12
  refine loop1 (fun (i : Nat) (i' : Int) w' => i' = i ∧ i ≤ xs.length ∧ St [] W w' [ownA 1 c (ivs .i64 (hist (xs.take i)))]) (fun i => xs.length - i) 0 ⟨rfl, by omega, by
    have e : hist (xs.take 0) = List.replicate 256 0 := by
      rw [rep_mapR]
      exact mapR_congr fun i _ => by simp
    rw [e]; exact h⟩ ?_
  clear h
  rintro i i' wL I μ ⟨rfl, hi, h⟩ hin
  unfold trovelaw6_LimitCodes.b3
  have hgd := hist_good (r := xs.take i) (by rw [List.length_take]; omega)
  refine br_d (fun g => ?_) (fun g => ?_)
  · have hix : i < xs.length := by omega
    have hxi := hb _ (mem_getD hix)
    refine h.lx (s := s) i rfl hix ?_
    have hv := hgd.2 _ (mem_getD (xs := hist (xs.take i)) (i := (xs.getD i 0).toNat) (by rw [hist_length]; omega))
    unfold badN at hv
    refine h.lx (s := c) (xs.getD i 0).toNat (by omega) (by rw [hist_length]; omega) ?_
    refine lt_as (wrap_i64 (by omega) (by omega)) ?_
    refine h.sx (s := c) (xs.getD i 0).toNat (by omega) (by rw [hist_length]; omega) fun w h => ?_
    refine lt_as (wrap_i64 (by omega) (by omega)) ?_
    rw [hist_snoc _ hxi.1 hxi.2, ← take_sn hix] at h
    exact ⟨⟨rfl, rfl, rfl⟩, hin (i + 1) _ _ ⟨by omega, by omega, h⟩ (by omega)⟩
  · have : i = xs.length := by omega
    subst this
    rw [List.take_length] at h hgd
    clear hin
    have hcl : (comeL (hist xs)).length ≤ 2 ^ M := by
      have := come_le (hist xs)
      rw [hist_length] at this
      omega
    have eL : leastE (hist xs) M = 0 := by
      unfold leastE
      rw [if_neg (fun e => by
        rcases e with e | e | e
        · exact e hgd
        · omega
        · omega), Int.toNat_natCast, if_neg (by omega)]
    unfold trovelaw6_LimitCodes.j3
    refine limit_Lengths.c (s := c) (m := M) h (fun t w _ ht h => ⟨t, 0, rfl, ?_⟩) (fun w e _ => absurd eL e)
    rw [Int.toNat_natCast] at h
    unfold trovelaw6_LimitCodes.j4
    refine limit_Least.c (s := c) (m := M) h fun w h => ⟨_, _, rfl, ?_⟩
    rw [eL, if_pos rfl, Int.toNat_natCast]
    have hnw := lenP_new (xs := hist xs) (M := M) hgd.1 hcl (by omega) (by omega)
    have hok := lenP_ok (xs := hist xs) hcl (by omega) (by omega)
    have hkr := (kr_lenP (xs := hist xs) hcl (by omega) (by omega)).1
    have hdc := dot_cost (hist xs) M
    rw [hist_length] at hdc
    have hlen : (lenP (hist xs) M).length = 256 := by rw [lenP_length, hist_length]
    have hpos : ∀ x ∈ xs, 0 < (lenP (hist xs) M).getD x.toNat 0 := by
      intro x hx
      have hb := hb x hx
      have hi : x.toNat < (hist xs).length := by rw [hist_length]; omega
      rw [lenP_getD hi]
      have h1 := lenF_ok hcl (by omega) hi
      have h2 : 0 < (hist xs).getD x.toNat 0 := by
        rw [hist_get xs (by omega)]
        have : 0 < (xs.map Int.toNat).count x.toNat := List.count_pos_iff.2 (List.mem_map_of_mem hx)
        omega
      omega
    have hwc := word_cost (ls := lenP (hist xs) M) hb hlen hpos
    rw [hdc] at hwc
    obtain ⟨ls, hls⟩ : ∃ ls, ls = lenP (hist xs) M := ⟨_, rfl⟩
    rw [← hls] at h hnw hok hkr hdc hlen hpos hwc
    have hsm : ∀ q : List Int, (wordL ls q).length ≤ 15 * q.length := by
      intro q
      induction q with
      | nil => simp [wordL]
      | cons x q ih =>
        have e : wordL ls (x :: q) = hput ls x ++ wordL ls q := by simp [wordL]
        rw [e, List.length_append, List.length_cons]
        have : (hput ls x).length ≤ 15 := by
          unfold hput
          split
          · rename_i hc
            rw [cbits_length]
            have := hok _ (mem_getD (show x.toNat < ls.length by omega))
            omega
          · simp
        omega
    refine huff_New.c (half := true) (s := t) h (fun cb w _ h => ⟨_, _, rfl, ?_⟩) (fun w e _ => absurd hnw e)
    unfold trovelaw6_LimitCodes.j5
    refine lt_as (show _ = (0 : Int) by decide) (lt_as (show _ = (0 : Int) by decide) ?_)
    refine br_no rfl (br_no rfl ?_)
    have smc : smallC (hist xs) := fun x hx => by
      have := hgd.2 x hx
      unfold badN at this
      omega
    refine huff_Code_Cost.c (cb := cb) (s := c) h smc fun w h => ⟨_, rfl, ?_⟩
    rw [hlen, hist_length, costN_dot, Nat.min_self, hdc]
    refine br_no (by simp) ?_
    refine bits_NewWriter.c h fun wb w h => ⟨_, rfl, ?_⟩
    have h : St [] W w [wrL wb [], hcA cb ls] := h.sub
    unfold trovelaw6_LimitCodes.j6 trovelaw6_LimitCodes.j11
    refine loop1 (fun (i : Nat) (i' : Int) w' => i' = i ∧ i ≤ xs.length ∧ St [] W w' [wrL wb (wordL ls (xs.take i)), hcA cb ls]) (fun i => xs.length - i) 0 ⟨rfl, by omega, h⟩ ?_
    clear h
    rintro i i' w I μ ⟨rfl, hi, h⟩ hin
    unfold trovelaw6_LimitCodes.b2
    have hsi := hsm (xs.take i)
    rw [List.length_take] at hsi
    refine br_d (fun g => ?_) (fun g => ?_)
    · have hix : i < xs.length := by omega
      have hm := mem_getD hix
      have hxi := hb _ hm
      have hpi := hpos _ hm
      have htk := take_sn hix
      refine h.lx (s := s) i rfl hix ?_
      generalize xs.getD i 0 = x at hm hxi hpi htk
      refine lt_as (wrap_i64 (by omega) (by omega)) ?_
      refine huff_Code_Put.c (cb := cb) (sym := x) h (by omega) fun w h => ⟨_, rfl, ?_⟩
      have hps : hputs ls x = true := by
        unfold hputs
        exact decide_eq_true ⟨hxi.1, by omega, by omega⟩
      rw [hps]
      refine br_no rfl ?_
      refine lt_as (wrap_i64 (by omega) (by omega)) ?_
      refine ⟨⟨rfl, rfl, rfl, rfl⟩, hin (i + 1) _ _ ⟨by omega, by omega, ?_⟩ (by omega)⟩
      rw [htk, show wordL ls (xs.take i ++ [x]) = wordL ls (xs.take i) ++ hput ls x by simp [wordL]]
      exact h
    · have : i = xs.length := by omega
      subst this
      rw [List.take_length] at h
      clear hin hsi
      have hwl := hsm xs
      unfold trovelaw6_LimitCodes.j7
      refine bits_Writer_Len.c h (by omega) fun w h => ⟨_, rfl, ?_⟩
      rw [hwc]
      refine br_no (by simp) ?_
      refine bits_Writer_Done.c h (by omega) fun r w hr1 hr2 h => ⟨r, rfl, ?_⟩
      refine bits_NewReader.c (V := val (wordL ls xs)) (N := ((wordL ls xs).length + 7) / 8) h h.rd (by omega) fun rb w h => ⟨_, rfl, ?_⟩
      have hbx := bitsOf_ext (wordL ls xs) (n := 8 * (((wordL ls xs).length + 7) / 8)) (by omega)
      have h : St [] W w [bitA rb (val (wordL ls xs), ((wordL ls xs).length + 7) / 8, 0), hcA cb ls] := St.sub (ps := bitA rb (val (wordL ls xs), ((wordL ls xs).length + 7) / 8, 0) :: _) h
      generalize hV : val (wordL ls xs) = V at h hbx
      generalize hN : ((wordL ls xs).length + 7) / 8 = N at h hbx
      have hN2 : (wordL ls xs).length ≤ 8 * N ∧ N ≤ 2000 := by omega
      unfold trovelaw6_LimitCodes.j8 trovelaw6_LimitCodes.j10
      refine loop1 (fun (k : Nat) (k' : Int) w' => k' = k ∧ k ≤ xs.length ∧ St [] W w' [bitA rb (V, N, (wordL ls (xs.take k)).length), hcA cb ls]) (fun k => xs.length - k) 0 ⟨rfl, by omega, h⟩ ?_
      clear h
      rintro k k' w I μ ⟨rfl, hk, h⟩ hin
      unfold trovelaw6_LimitCodes.b1
      have hsplit : wordL ls xs = wordL ls (xs.take k) ++ wordL ls (xs.drop k) := by
        unfold wordL
        rw [← List.flatMap_append, List.take_append_drop]
      have hple : (wordL ls (xs.take k)).length ≤ (wordL ls xs).length := by rw [hsplit, List.length_append]; omega
      refine br_d (fun g6 => ?_) (fun g6 => ?_)
      · have hkq : k < xs.length := by omega
        have hm := mem_getD hkq
        have hxi := hb _ hm
        have hpi := hpos _ hm
        have hd2 := drop_sn hkq
        have htk := take_sn hkq
        obtain ⟨x, hxe⟩ : ∃ x : Nat, xs.getD k 0 = x := ⟨(xs.getD k 0).toNat, by omega⟩
        rw [hxe] at hxi hpi hd2 htk
        rw [Int.toNat_natCast] at hpi
        have hx2 := hok _ (mem_getD (show x < ls.length by omega))
        obtain ⟨b, hbb⟩ : ∃ b : Nat, ls.getD x 0 = b := ⟨(ls.getD x 0).toNat, by omega⟩
        have hpe : hput ls (x : Int) = cbits (hcode ls x) b := by
          unfold hput
          rw [Int.toNat_natCast, if_pos ⟨by omega, by omega, by omega⟩, hbb, Int.toNat_natCast]
        have hx : hnext ls (bitsOf V (8 * N)) (wordL ls (xs.take k)).length = ((x : Int), 0, (wordL ls (xs.take k)).length + b) := by
          refine hnext_code hok (by omega) hbb (by omega) ?_ (hcode_size hok hkr (by omega) hbb (by omega))
          rw [hbx, hsplit, hd2]
          have e : wordL ls ((x : Int) :: xs.drop (k + 1)) = cbits (hcode ls x) b ++ wordL ls (xs.drop (k + 1)) := by
            rw [← hpe]; simp [wordL]
          rw [e, List.append_assoc, List.append_assoc]
          exact drop_take_app rfl (cbits_length _ _)
        refine huff_Code_Next.d (V := V) (N := N) h (by omega) (by omega) fun w _ h => ⟨_, _, rfl, ?_⟩
        rw [hx] at h ⊢
        refine h.lx (s := s) k rfl hkq ?_
        rw [hxe]
        refine lt_as (wrap_i64 (by omega) (by omega)) ?_
        refine br_no (by simp) (br_no rfl ?_)
        refine lt_as (wrap_i64 (by omega) (by omega)) ?_
        refine ⟨⟨rfl, rfl, rfl⟩, hin (k + 1) _ _ ⟨by omega, by omega, ?_⟩ (by omega)⟩
        have e : (wordL ls (xs.take (k + 1))).length = (wordL ls (xs.take k)).length + b := by
          rw [htk]
          have : wordL ls (xs.take k ++ [(x : Int)]) = wordL ls (xs.take k) ++ hput ls (x : Int) := by simp [wordL]
          rw [this, hpe, List.length_append, cbits_length]
        rw [e]
        exact h
      · unfold trovelaw6_LimitCodes.j9
        exact ⟨rfl, h.mod⟩
end Go.Proofs.Ythdmmmfgjmmelaa
