/- Tokens: checked, counted, expanded: the program's texts and the document's. Own work. -/
import Derived.Test.YtkajimndclhgaaaPush
import Derived.Test.YtkajimndclhgaaaLst
import Derived.Test.YtkajimndclhgaaaLzM
import Derived.Test.YtkajimndclhgaaaOpn
import Derived.Test.YtkajimndclhgaaaGLz
import Derived.Test.YtkajimndclhgaaaGLzR
namespace Go.Proofs.Ytkajimndclhgaaa
open Go Go.Proofs
set_option linter.unusedVariables false
set_option linter.unusedSimpArgs false
attribute [local irreducible] apK cpK mkK br

/-! ### 1. tokens in memory -/

abbrev tks (L : List Tk) : List Value := tri .u8 .i64 .i64 L
def tkC (t : Tk) : List Value := [.int .u8 t.1, .int .i64 t.2.1, .int .i64 t.2.2]

theorem zc_tok : zc Try.prog 78 = ⟨[.int .u8 0, .int .i64 0, .int .i64 0]⟩ := by kernel_rfl
theorem zc_rtok : zc Try.prog 158 = ⟨[.int .u8 0, .int .i64 0, .int .i64 0]⟩ := by kernel_rfl

theorem tks_snoc (L : List Tk) (t : Tk) : tks (L ++ [t]) = tks L ++ tkC t := by simp [tri, tkC]

theorem tkC_storable (t : Tk) : ∀ v ∈ (⟨tkC t⟩ : Array Value), storable v := by
  intro v hv
  have hv : v ∈ tkC t := by simpa using hv
  simp [tkC] at hv
  rcases hv with rfl | rfl | rfl <;> trivial

section
variable {F0 : List Nat} {w0 w : World} {ps rest : List As} {L : List Tk}

/-- a place in a row of tokens: what can be read there -/
theorem Rd.ixT {s : Sl} {i : Int} {K : Addr → Prop} (h : Rd w 3 s (tks L)) (j : Nat) (hi : i = j) (hj : j < L.length)
    (hk : ∀ a, w.cell? (a.add 0) = some (.int .u8 L[j].1) → w.cell? (a.add 1) = some (.int .i64 L[j].2.1) → w.cell? (a.add 2) = some (.int .i64 L[j].2.2) → K a) : ixS s.a s.len i 3 K := by
  subst hi
  have hl := h.1
  rw [tri_length] at hl
  refine h.ix (by decide) (by omega) (by omega) fun a ha => ?_
  rw [show ((j : Int)).toNat * 3 = j * 3 by omega]
  obtain ⟨g1, g2, g3⟩ := tri_get .u8 .i64 .i64 L j hj
  refine hk _ ?_ ?_ ?_
  · rw [add_add, h.cell ha (by rw [tri_length]; omega)]; exact g1
  · rw [add_add, h.cell ha (by rw [tri_length]; omega)]; exact g2
  · rw [add_add, h.cell ha (by rw [tri_length]; omega)]; exact g3

theorem ldA_tok {a : Addr} {t : Tk} {K : Array Value → Prop} (h0 : w.cell? (a.add 0) = some (.int .u8 t.1)) (h1 : w.cell? (a.add 1) = some (.int .i64 t.2.1)) (h2 : w.cell? (a.add 2) = some (.int .i64 t.2.2)) (hk : K ⟨tkC t⟩) : ldA w a 3 K :=
  ⟨⟨tkC t⟩, rfl, fun i hi => by
    have : i = 0 ∨ i = 1 ∨ i = 2 := by omega
    rcases this with rfl | rfl | rfl
    · rw [h0]; rfl
    · rw [h1]; rfl
    · rw [h2]; rfl, hk⟩

/-- a whole token is loaded -/
theorem St.ltok {s : Sl} {i : Int} {K : Array Value → Prop} (h : St F0 w0 w ps) [Rdb F0 w0 s ps 3 (tks L)] (j : Nat) (hi : i = j) (hj : j < L.length) (hk : K ⟨tkC L[j]⟩) : ixS s.a s.len i 3 fun a => ldA w a 3 K :=
  (h.rdb s).ixT j hi hj fun a h0 h1 h2 => ldA_tok h0 h1 h2 hk
theorem St.lt0 {s : Sl} {i : Int} {K : Int → Prop} (h : St F0 w0 w ps) [Rdb F0 w0 s ps 3 (tks L)] (j : Nat) (hi : i = j) (hj : j < L.length) (hk : K L[j].1) : ixS s.a s.len i 3 fun a => ldI .u8 w (Addr.add a 0) K :=
  (h.rdb s).ixT j hi hj fun a h0 h1 h2 => ldI_c h0 hk
theorem St.lt1 {s : Sl} {i : Int} {K : Int → Prop} (h : St F0 w0 w ps) [Rdb F0 w0 s ps 3 (tks L)] (j : Nat) (hi : i = j) (hj : j < L.length) (hk : K L[j].2.1) : ixS s.a s.len i 3 fun a => ldI .i64 w (Addr.add a 1) K :=
  (h.rdb s).ixT j hi hj fun a h0 h1 h2 => ldI_c h1 hk
theorem St.lt2 {s : Sl} {i : Int} {K : Int → Prop} (h : St F0 w0 w ps) [Rdb F0 w0 s ps 3 (tks L)] (j : Nat) (hi : i = j) (hj : j < L.length) (hk : K L[j].2.2) : ixS s.a s.len i 3 fun a => ldI .i64 w (Addr.add a 2) K :=
  (h.rdb s).ixT j hi hj fun a h0 h1 h2 => ldI_c h2 hk

/-- a token's own block -/
theorem St.tokN {t : Tk} {K : Addr → World → Prop} (h : St F0 w0 w ps) (hk : ∀ nb w', St F0 w0 w' (blkA nb (tkC t) :: ps) → K ⟨nb, 0, none⟩ w') :
    lt (⟨World.heapSize w, 0, none⟩ : Addr) fun a => lt (World.alloc w (.cells (zc Try.prog 78) 78)) fun w1 => (⟨tkC t⟩ : Array Value).size = 3 ∧ Go.Proofs.Ytkajimndclhgaaa.stA w1 a ⟨tkC t⟩ fun w2 => K a w2 := by
  rw [zc_tok]
  refine h.new fun nb w h => ⟨rfl, ?_⟩
  exact h.sA (l := [.int .u8 0, .int .i64 0, .int .i64 0]) rfl rfl (tkC_storable t) fun w h => hk nb w h
theorem St.rtokN {t : Tk} {K : Addr → World → Prop} (h : St F0 w0 w ps) (hk : ∀ nb w', St F0 w0 w' (blkA nb (tkC t) :: ps) → K ⟨nb, 0, none⟩ w') :
    lt (⟨World.heapSize w, 0, none⟩ : Addr) fun a => lt (World.alloc w (.cells (zc Try.prog 158) 158)) fun w1 => (⟨tkC t⟩ : Array Value).size = 3 ∧ Go.Proofs.Ytkajimndclhgaaa.stA w1 a ⟨tkC t⟩ fun w2 => K a w2 := by
  rw [zc_rtok]
  refine h.new fun nb w h => ⟨rfl, ?_⟩
  exact h.sA (l := [.int .u8 0, .int .i64 0, .int .i64 0]) rfl rfl (tkC_storable t) fun w h => hk nb w h

theorem St.tb0 {b : Nat} {t : Tk} {K : Int → Prop} (h : St F0 w0 w (blkA b (tkC t) :: ps)) (hk : K t.1) : ldI .u8 w (Addr.add ⟨b, 0, none⟩ 0) K := h.blk.ldI (o := 0) rfl hk
theorem St.tb1 {b : Nat} {t : Tk} {K : Int → Prop} (h : St F0 w0 w (blkA b (tkC t) :: ps)) (hk : K t.2.1) : ldI .i64 w (Addr.add ⟨b, 0, none⟩ 1) K := h.blk.ldI (o := 1) rfl hk
theorem St.tb2 {b : Nat} {t : Tk} {K : Int → Prop} (h : St F0 w0 w (blkA b (tkC t) :: ps)) (hk : K t.2.2) : ldI .i64 w (Addr.add ⟨b, 0, none⟩ 2) K := h.blk.ldI (o := 2) rfl hk

/-! ### 2. the program's -/

theorem tkBad_min {n : Nat} {t : Tk} : tkBad (min n 32768) t ↔ tkBad n t := by unfold tkBad; omega

theorem lz_wrong.c {t : Tk} {n : Nat} {K : Ending → World → Prop} (h : St F0 w0 w ps)
    (hk : ∀ w', St F0 w0 w' ps → K (.returned (.bool (decide (tkBad n t)))) w') : Calls Try.prog 128 ⟨[.agg ⟨tkC t⟩, .int .i64 (n : Int)]⟩ w K := by
  refine ret_k (lz_wrong.ok _ _ _ _ ?_)
  unfold lz_wrong
  refine h.new fun nb w h => ?_
  have h : St F0 w0 w (blkA nb (tkC t) :: ps) := h
  have hk := hk w h.drop
  have yes : tkBad n t → K (.returned (.bool true)) w := fun e => by rw [decide_eq_true e] at hk; exact hk
  refine h.tb1 (br_b (fun g => ?_) (fun g => ?_))
  · have g : t.2.1 = 0 := by simpa using g
    refine h.tb2 ?_
    have e : (t.2.2 != 0) = decide (tkBad n t) := by
      apply Bool.eq_iff_iff.2
      rw [bne_iff_ne, decide_eq_true_eq]
      unfold tkBad
      omega
    rw [e]; exact hk
  have g : t.2.1 ≠ 0 := by simpa using g
  refine h.tb0 (br_b (fun g1 => yes (by have g1 : t.1 ≠ 0 := (by simpa using g1); unfold tkBad; omega)) (fun g1 => ?_))
  have g1 : t.1 = 0 := by simpa using g1
  refine h.tb1 (br_d (fun g2 => yes (by unfold tkBad; omega)) (fun g2 => ?_))
  refine h.tb1 (br_d (fun g3 => yes (by unfold tkBad; omega)) (fun g3 => ?_))
  refine h.tb2 (br_d (fun g4 => yes (by unfold tkBad; omega)) (fun g4 => ?_))
  refine h.tb2 (br_d (fun g5 => yes (by unfold tkBad; omega)) (fun g5 => ?_))
  refine h.tb2 ?_
  have e : decide (t.2.2 > (n : Int)) = decide (tkBad n t) := by
    apply decide_eq_decide.2
    unfold tkBad
    omega
  rw [e]; exact hk

/-- tokens that are small enough to be told by their numbers -/
def tkWf (L : List Tk) : Prop := ∀ t ∈ L, -9223372036854775808 ≤ t.2.1 ∧ t.2.1 < 9223372036854775808 ∧ 0 ≤ t.1 ∧ t.1 < 256

theorem drop_tk {i : Nat} (h : i < L.length) : L.drop i = L[i] :: L.drop (i + 1) := List.drop_eq_getElem_cons h

theorem lz_Check.c {s : Sl} {K : Ending → World → Prop} (h : St F0 w0 w ps) [Rdb F0 w0 s ps 3 (tks L)] (hL : L.length ≤ 1000000000)
    (hk : ∀ w', St F0 w0 w' ps → K (.returned (.int .i64 (tkChk 0 L))) w') : Calls Try.prog 68 ⟨[.slice s.a s.len s.cap]⟩ w K := by
  have hl := (h.rdb s).1
  rw [tri_length] at hl
  refine ret_k (lz_Check.ok _ _ _ ?_)
  unfold lz_Check lz_Check.j1 lz_Check.j3
  refine loop2 (fun (a : Nat × Nat) (at' i' : Int) w' => i' = a.1 ∧ a.1 ≤ L.length ∧ at' = ((min a.2 32768 : Nat) : Int) ∧ tkChk a.2 (L.drop a.1) = tkChk 0 L ∧ St F0 w0 w' ps) (fun a => L.length - a.1) (0, 0) ⟨rfl, by simp, by simp, by simp, h⟩ ?_
  clear h
  rintro ⟨i, n⟩ at' i' w I μ ⟨rfl, hi, rfl, hc, h⟩ hin
  simp only at hi hc h hin ⊢
  unfold lz_Check.b1
  refine br_d (fun g => ?_) (fun g => ?_)
  · have hil : i < L.length := by omega
    rw [drop_tk hil, tkChk] at hc
    refine h.ltok (s := s) i rfl hil ?_
    generalize L[i] = t at hc ⊢
    refine h.tokN fun nb w h => ?_
    refine h.lA rfl ?_
    refine lz_wrong.c (n := min n 32768) h fun w h => ⟨_, rfl, ?_⟩
    rw [decide_eq_decide.2 (tkBad_min (n := n) (t := t))]
    refine br_d (fun g2 => ?_) (fun g2 => ?_)
    · rw [if_pos g2] at hc
      rw [← hc] at hk
      exact hk w h.drop
    · rw [if_neg g2] at hc
      refine h.tb1 ?_
      have htn : (if (1 : Int) > t.2.1 then 1 else t.2.1) = (tkN t : Int) := by
        unfold tkBad at g2
        unfold tkN
        split <;> split <;> omega
      have htn2 : tkN t ≤ 258 := by
        unfold tkBad at g2
        unfold tkN
        split <;> omega
      refine lt_as htn ?_
      refine lt_as (wrap_i64 (by omega) (by omega)) ?_
      refine lt_as (show (if (32768 : Int) < ((min n 32768 : Nat) : Int) + (tkN t : Int) then 32768 else ((min n 32768 : Nat) : Int) + (tkN t : Int)) = ((min (n + tkN t) 32768 : Nat) : Int) by split <;> omega) ?_
      refine lt_as (wrap_i64 (by omega) (by omega)) ?_
      exact ⟨⟨rfl, rfl⟩, hin (i + 1, n + tkN t) _ _ _ ⟨by simp, by simp only; omega, rfl, hc, h.drop⟩ (by simp only; omega)⟩
  · have : i = L.length := by omega
    subst this
    rw [List.drop_length, tkChk] at hc
    unfold lz_Check.j2
    rw [← hc] at hk
    exact hk w h

theorem tkK_le (t : Tk) : tkK t ≤ 258 := by unfold tkK; split; · omega
                                            · split <;> omega

theorem sum_sn {i : Nat} (h : i < L.length) : ((L.take (i + 1)).map tkK).sum = ((L.take i).map tkK).sum + tkK L[i] := by
  rw [List.take_succ_eq_append_getElem h, List.map_append, List.sum_append]
  simp

theorem lz_Size.c {s : Sl} {K : Ending → World → Prop} (h : St F0 w0 w ps) [Rdb F0 w0 s ps 3 (tks L)] (hL : L.length ≤ 1000000000)
    (hk : ∀ w', St F0 w0 w' ps → K (.returned (.int .i64 (tkSize L))) w') : Calls Try.prog 70 ⟨[.slice s.a s.len s.cap]⟩ w K := by
  have hl := (h.rdb s).1
  rw [tri_length] at hl
  refine ret_k (lz_Size.ok _ _ _ ?_)
  unfold lz_Size lz_Size.j1 lz_Size.j3
  refine loop2 (fun (i : Nat) (n i' : Int) w' => i' = i ∧ i ≤ L.length ∧ n = ((min (((L.take i).map tkK).sum) 262145 : Nat) : Int) ∧ St F0 w0 w' ps) (fun i => L.length - i) 0 ⟨rfl, by omega, by simp, h⟩ ?_
  clear h
  rintro i n i' wL I μ ⟨rfl, hi, rfl, h⟩ hin
  unfold lz_Size.b1
  refine br_d (fun g => ?_) (fun g => ?_)
  · have hil : i < L.length := by omega
    have hs := sum_sn hil
    have hkl := tkK_le L[i]
    refine h.ltok (s := s) i rfl hil ?_
    generalize L[i] = t at hs hkl ⊢
    refine h.tokN fun nb w h => ?_
    refine h.tb1 (h.tb1 ?_)
    have fin : ∀ k : Int, k = (tkK t : Int) → lt (IntKind.i64.wrap (((min (((L.take i).map tkK).sum) 262145 : Nat) : Int) + k)) fun x => lt (if (262145 : Int) < x then 262145 else x) fun y => lt (IntKind.i64.wrap ((i : Int) + 1)) fun z => ((s = s ∧ ((s.len : Nat) : Int) = ((s.len : Nat) : Int)) ∧ I y z w ∧ μ y z w < μ ((min (((L.take i).map tkK).sum) 262145 : Nat) : Int) (i : Int) wL) := by
      intro k hk
      subst hk
      refine lt_as (wrap_i64 (by omega) (by omega)) ?_
      refine lt_as (show (if (262145 : Int) < ((min (((L.take i).map tkK).sum) 262145 : Nat) : Int) + (tkK t : Int) then 262145 else ((min (((L.take i).map tkK).sum) 262145 : Nat) : Int) + (tkK t : Int)) = ((min (((L.take (i + 1)).map tkK).sum) 262145 : Nat) : Int) by split <;> omega) ?_
      refine lt_as (wrap_i64 (by omega) (by omega)) ?_
      exact ⟨⟨rfl, rfl⟩, hin (i + 1) _ _ _ ⟨by omega, by omega, rfl, h.drop⟩ (by omega)⟩
    refine br_b (fun g2 => ?_) (fun g2 => ?_)
    · have g2 : t.2.1 = 0 := by simpa using g2
      exact fin 1 (by unfold tkK; rw [if_pos g2]; rfl)
    have g2 : t.2.1 ≠ 0 := by simpa using g2
    refine h.tb1 (br_d (fun g3 => ?_) (fun g3 => ?_))
    · exact fin 0 (by unfold tkK; rw [if_neg g2, if_pos (by omega)]; rfl)
    refine h.tb1 (br_d (fun g4 => ?_) (fun g4 => ?_))
    · exact fin 0 (by unfold tkK; rw [if_neg g2, if_pos (by omega)]; rfl)
    · exact fin _ (by unfold tkK; rw [if_neg g2, if_neg (by omega)]; omega)
  · have : i = L.length := by omega
    subst this
    rw [List.take_length]
    unfold lz_Size.j2
    exact hk wL h

/-- what a copy's bytes are, byte by byte -/
theorem tkCopy_succ (d : Int) (k : Nat) (out : List Int) : tkCopy d (k + 1) out = tkCopy d k (out ++ [out.getD (out.length - d.toNat) 0]) := rfl

theorem tkChk_cons {n : Nat} {t : Tk} {r : List Tk} (h : tkChk n (t :: r) = 0) : ¬ tkBad n t ∧ tkChk (n + tkN t) r = 0 := by
  rw [tkChk] at h
  split at h
  · cases h
  · exact ⟨by assumption, h⟩

theorem lz_Expand.c {s : Sl} {most : Int} {K : Ending → World → Prop} (h : St F0 w0 w ps) [Rdb F0 w0 s ps 3 (tks L)] (hL : L.length ≤ 1000000) (hm : most < 9223372036854775808)
    (hk : ∀ s' w', s'.len = (tkExpand L most).1.length → s'.cap = s'.len → St F0 w0 w' (rdA 1 s' (u8s (tkExpand L most).1) :: ps) → K (.returned (.tuple ⟨[.slice s'.a s'.len s'.cap, .int .i64 (tkExpand L most).2]⟩)) w') :
    Calls Try.prog 66 ⟨[.slice s.a s.len s.cap, .int .i64 most]⟩ w K := by
  have hl := (h.rdb s).1
  rw [tri_length] at hl
  refine ret_k (lz_Expand.ok _ _ _ _ ?_)
  unfold lz_Expand
  refine lz_Check.c h (by omega) fun w h => ⟨_, rfl, ?_⟩
  unfold tkExpand at hk
  have nilS : ∀ {w}, St F0 w0 w ps → St F0 w0 w (rdA 1 ⟨none, 0, 0⟩ (u8s []) :: ps) := fun h => (h.nil 1).ro
  refine br_b (fun g => ?_) (fun g => ?_)
  · have g : tkChk 0 L ≠ 0 := by simpa using g
    rw [if_pos g] at hk
    have e2 : tkChk 0 L = 2 := by
      have : ∀ (L : List Tk) n, tkChk n L = 0 ∨ tkChk n L = 2 := by
        intro L
        induction L with
        | nil => intro n; exact Or.inl rfl
        | cons t L ih =>
          intro n
          rw [tkChk]
          split
          · exact Or.inr rfl
          · exact ih _
      rcases this L 0 with h | h
      · exact absurd h g
      · exact h
    rw [e2]
    exact hk ⟨none, 0, 0⟩ w rfl rfl (nilS h)
  have g : tkChk 0 L = 0 := by simpa using g
  rw [if_neg (fun e => e g)] at hk
  unfold lz_Expand.j1
  refine br_d (fun g2 => ?_) (fun g2 => ?_)
  · rw [if_pos g2] at hk
    exact hk ⟨none, 0, 0⟩ w rfl rfl (nilS h)
  rw [if_neg g2] at hk
  unfold lz_Expand.j2 lz_Expand.j4
  refine loop2 (fun (a : Nat × List Int) (o : Sl) (i' : Int) w' => i' = a.1 ∧ a.1 ≤ L.length ∧ a.2.length ≤ 258 * a.1 ∧ (a.2.length : Int) ≤ most ∧ tkChk a.2.length (L.drop a.1) = 0 ∧ tkAll most a.2 (L.drop a.1) = tkAll most [] L ∧ St F0 w0 w' (ownA 1 o (u8s a.2) :: ps)) (fun a => L.length - a.1) (0, [])
    ⟨rfl, by simp, by simp, by simp only [List.length_nil]; omega, by simpa using g, by simp, h.nil 1⟩ ?_
  clear h
  rintro ⟨i, out⟩ o i' wL I μ ⟨rfl, hi, hol, hom, hc, ha, h⟩ hin
  simp only at hi hol hom hc ha h hin ⊢
  have holen := h.len
  rw [ivs_length] at holen
  unfold lz_Expand.b1
  refine br_d (fun g3 => ?_) (fun g3 => ?_)
  · have hil : i < L.length := by omega
    rw [drop_tk hil] at hc ha
    obtain ⟨hb, hc⟩ := tkChk_cons hc
    rw [tkAll] at ha
    unfold lz_Expand.j5
    refine h.ltok (s := s) i rfl hil ?_
    generalize L[i] = t at hc ha hb ⊢
    refine h.tokN fun nb w h => ?_
    unfold lz_Expand.j7
    have htn : (if (1 : Int) > t.2.1 then 1 else t.2.1) = (tkN t : Int) := by
      unfold tkBad at hb
      unfold tkN
      split <;> split <;> omega
    have htn2 : 1 ≤ tkN t ∧ tkN t ≤ 258 := by
      unfold tkBad at hb
      unfold tkN
      split <;> omega
    refine h.tb1 (lt_as htn ?_)
    refine lt_as (wrap_i64 (by omega) (by omega)) ?_
    refine br_d (fun g4 => ?_) (fun g4 => ?_)
    · rw [if_pos (by omega)] at ha
      rw [← ha] at hk
      exact hk ⟨none, 0, 0⟩ w rfl rfl (nilS h.drop.drop)
    rw [if_neg (by omega)] at ha
    have fin : ∀ (o2 : Sl) (w' : World) (t19 : Int), t19 = (i : Int) → St F0 w0 w' (ownA 1 o2 (u8s (tkExp out t)) :: blkA nb (tkC t) :: ps) → lz_Expand.j6 most o2 s ((s.len : Nat) : Int) t19 (fun v w' => K (.returned v) w') (fun most_1' t17' t18' out_7' t19' w' => (most_1' = most ∧ t17' = s ∧ t18' = ((s.len : Nat) : Int)) ∧ I out_7' t19' w' ∧ μ out_7' t19' w' < μ o (i : Int) wL) w' := by
      intro o2 w' t19 e h
      subst e
      unfold lz_Expand.j6
      have hel := tkExp_length out t (by unfold tkBad at hb; omega)
      refine lt_as (wrap_i64 (by omega) (by omega)) ?_
      exact ⟨⟨rfl, rfl, rfl⟩, hin (i + 1, tkExp out t) _ _ _ ⟨by simp, by simp only; omega, by simp only; omega, by simp only; omega, by simp only; rw [hel]; exact hc, by simp only; exact ha, h.sub⟩ (by simp only; omega)⟩
    have cp : ∀ (o2 : Sl) (out2 : List Int) (w' : World) (m : Nat), t.2.1 = m → tkCopy t.2.2 m out2 = tkExp out t → out2.length + m ≤ 258 * i + 258 + 258 → (m = 0 ∨ (1 ≤ t.2.2 ∧ t.2.2 ≤ out2.length)) → St F0 w0 w' (ownA 1 o2 (u8s out2) :: blkA nb (tkC t) :: ps) → lz_Expand.j8 most o2 ⟨nb, 0, none⟩ s ((s.len : Nat) : Int) (i : Int) (fun v w' => K (.returned v) w') (fun most_1' t17' t18' out_7' t19' w' => (most_1' = most ∧ t17' = s ∧ t18' = ((s.len : Nat) : Int)) ∧ I out_7' t19' w' ∧ μ out_7' t19' w' < μ o (i : Int) wL) w' := by
      intro o2 out2 w' m hm2 he hlim hd h
      unfold lz_Expand.j8
      refine h.at1.tb1 ?_
      unfold lz_Expand.j9
      refine loop2 (fun (a : Nat × List Int) (o : Sl) (k' : Int) w' => k' = a.1 ∧ a.1 ≤ m ∧ tkCopy t.2.2 (m - a.1) a.2 = tkExp out t ∧ a.2.length = out2.length + a.1 ∧ St F0 w0 w' (ownA 1 o (u8s a.2) :: blkA nb (tkC t) :: ps)) (fun a => m - a.1) (0, out2) ⟨rfl, by simp, by simpa using he, by simp, h⟩ ?_
      clear h
      rintro ⟨k, o3⟩ q k' w I3 μ3 ⟨rfl, hkm, hcp, hlen, h⟩ hin3
      simp only at hkm hcp hlen h hin3 ⊢
      have hql := h.len
      rw [ivs_length] at hql
      unfold lz_Expand.b2
      rw [hm2]
      refine br_d (fun g5 => ?_) (fun g5 => ?_)
      · obtain ⟨f, hf⟩ : ∃ f, m - k = f + 1 := ⟨m - k - 1, by omega⟩
        rw [hf, tkCopy_succ] at hcp
        refine h.at1.tb2 ?_
        refine lt_as (show IntKind.i64.wrap (((q.len : Nat) : Int) - t.2.2) = ((o3.length - t.2.2.toNat : Nat) : Int) by rw [wrap_i64 (by omega) (by omega)]; omega) ?_
        refine h.lx (s := q) (o3.length - t.2.2.toNat) rfl (by omega) ?_
        refine h.pushI (s := q) (by omega) fun q2 w h => ?_
        refine lt_as (wrap_i64 (by omega) (by omega)) ?_
        refine ⟨⟨rfl, rfl, rfl, rfl, rfl, rfl⟩, hin3 (k + 1, o3 ++ [o3.getD (o3.length - t.2.2.toNat) 0]) _ _ _ ⟨by simp, by simp only; omega, ?_, by simp; omega, h⟩ (by simp only; omega)⟩
        simp only
        rw [show m - (k + 1) = f by omega]
        exact hcp
      · have : k = m := by omega
        subst this
        rw [Nat.sub_self, tkCopy] at hcp
        rw [hcp] at h
        exact fin q w _ rfl h
    refine h.tb1 (br_b (fun g5 => ?_) (fun g5 => ?_))
    · have g5 : t.2.1 = 0 := by simpa using g5
      refine h.tb0 ?_
      refine h.pushI (s := o) (by omega) fun o2 w h => ?_
      refine cp o2 _ _ 0 g5 ?_ (by simp; omega) (Or.inl rfl) h
      unfold tkExp
      rw [if_pos g5]; rfl
    · have g5 : t.2.1 ≠ 0 := by simpa using g5
      have hb2 := hb
      unfold tkBad at hb2
      refine cp o out _ t.2.1.toNat (by omega) ?_ (by omega) (Or.inr (by omega)) h.at1
      unfold tkExp
      rw [if_neg g5]
  · have : i = L.length := by omega
    subst this
    rw [List.drop_length, tkAll] at ha
    unfold lz_Expand.j3
    rw [← ha] at hk
    have hcap := h.cap (by decide)
    refine slices_Clip_byte.c h.ro hcap fun s2 h1 h2 h => ⟨s2, rfl, ?_⟩
    exact hk s2 wL (by simp only; omega) (by omega) h

end

end Go.Proofs.Ytkajimndclhgaaa
