/- Several texts as one. Own work. -/
import Derived.Test.YtkajimndclhgaaaPush
import Derived.Test.YtkajimndclhgaaaLst
import Derived.Test.YtkajimndclhgaaaLzM
import Derived.Test.YtkajimndclhgaaaOpn
import Derived.Test.YtkajimndclhgaaaGLz
import Derived.Test.YtkajimndclhgaaaGLzR
import Derived.Test.YtkajimndclhgaaaMap
import Derived.Test.YtkajimndclhgaaaLzR
import Derived.Test.YtkajimndclhgaaaGLzL
/- Tokens: checked, counted, expanded: the program's texts and the document's. Own work. -/
namespace Go.Proofs.Ytkajimndclhgaaa
open Go Go.Proofs
set_option linter.unusedVariables false
set_option linter.unusedSimpArgs false
attribute [local irreducible] apK cpK mkK br

/-! ### 1. tokens in memory -/

abbrev tks (L : List Tk) : List Value := tri .u8 .i64 .i64 L
def tkC (t : Tk) : List Value := [.int .u8 t.1, .int .i64 t.2.1, .int .i64 t.2.2]

theorem zc_tok : zc Try.prog 78 = ⟨[.int .u8 0, .int .i64 0, .int .i64 0]⟩ := by kernel_rfl
theorem zc_rtok : zc Try.prog 158 = ⟨[.int .u8 0, .int .i64 0, .int .i64 0]⟩ := by kernel_rfl

theorem tks_snoc (L : List Tk) (t : Tk) : tks (L ++ [t]) = tks L ++ tkC t := by simp [tri, tkC]

theorem tkC_storable (t : Tk) : ∀ v ∈ (⟨tkC t⟩ : Array Value), storable v := by
  intro v hv
  have hv : v ∈ tkC t := by simpa using hv
  simp [tkC] at hv
  rcases hv with rfl | rfl | rfl <;> trivial

section
variable {F0 : List Nat} {w0 w : World} {ps rest : List As} {L : List Tk}

/-- a place in a row of tokens: what can be read there -/
theorem Rd.ixT {s : Sl} {i : Int} {K : Addr → Prop} (h : Rd w 3 s (tks L)) (j : Nat) (hi : i = j) (hj : j < L.length)
    (hk : ∀ a, w.cell? (a.add 0) = some (.int .u8 L[j].1) → w.cell? (a.add 1) = some (.int .i64 L[j].2.1) → w.cell? (a.add 2) = some (.int .i64 L[j].2.2) → K a) : ixS s.a s.len i 3 K := by
  subst hi
  have hl := h.1
  rw [tri_length] at hl
  refine h.ix (by decide) (by omega) (by omega) fun a ha => ?_
  rw [show ((j : Int)).toNat * 3 = j * 3 by omega]
  obtain ⟨g1, g2, g3⟩ := tri_get .u8 .i64 .i64 L j hj
  refine hk _ ?_ ?_ ?_
  · rw [add_add, h.cell ha (by rw [tri_length]; omega)]; exact g1
  · rw [add_add, h.cell ha (by rw [tri_length]; omega)]; exact g2
  · rw [add_add, h.cell ha (by rw [tri_length]; omega)]; exact g3

theorem ldA_tok {a : Addr} {t : Tk} {K : Array Value → Prop} (h0 : w.cell? (a.add 0) = some (.int .u8 t.1)) (h1 : w.cell? (a.add 1) = some (.int .i64 t.2.1)) (h2 : w.cell? (a.add 2) = some (.int .i64 t.2.2)) (hk : K ⟨tkC t⟩) : ldA w a 3 K :=
  ⟨⟨tkC t⟩, rfl, fun i hi => by
    have : i = 0 ∨ i = 1 ∨ i = 2 := by omega
    rcases this with rfl | rfl | rfl
    · rw [h0]; rfl
    · rw [h1]; rfl
    · rw [h2]; rfl, hk⟩

/-- a whole token is loaded -/
theorem St.ltok {s : Sl} {i : Int} {K : Array Value → Prop} (h : St F0 w0 w ps) [Rdb F0 w0 s ps 3 (tks L)] (j : Nat) (hi : i = j) (hj : j < L.length) (hk : K ⟨tkC L[j]⟩) : ixS s.a s.len i 3 fun a => ldA w a 3 K :=
  (h.rdb s).ixT j hi hj fun a h0 h1 h2 => ldA_tok h0 h1 h2 hk
theorem St.lt0 {s : Sl} {i : Int} {K : Int → Prop} (h : St F0 w0 w ps) [Rdb F0 w0 s ps 3 (tks L)] (j : Nat) (hi : i = j) (hj : j < L.length) (hk : K L[j].1) : ixS s.a s.len i 3 fun a => ldI .u8 w (Addr.add a 0) K :=
  (h.rdb s).ixT j hi hj fun a h0 h1 h2 => ldI_c h0 hk
theorem St.lt1 {s : Sl} {i : Int} {K : Int → Prop} (h : St F0 w0 w ps) [Rdb F0 w0 s ps 3 (tks L)] (j : Nat) (hi : i = j) (hj : j < L.length) (hk : K L[j].2.1) : ixS s.a s.len i 3 fun a => ldI .i64 w (Addr.add a 1) K :=
  (h.rdb s).ixT j hi hj fun a h0 h1 h2 => ldI_c h1 hk
theorem St.lt2 {s : Sl} {i : Int} {K : Int → Prop} (h : St F0 w0 w ps) [Rdb F0 w0 s ps 3 (tks L)] (j : Nat) (hi : i = j) (hj : j < L.length) (hk : K L[j].2.2) : ixS s.a s.len i 3 fun a => ldI .i64 w (Addr.add a 2) K :=
  (h.rdb s).ixT j hi hj fun a h0 h1 h2 => ldI_c h2 hk

/-- a token's own block -/
theorem St.tokN {t : Tk} {K : Addr → World → Prop} (h : St F0 w0 w ps) (hk : ∀ nb w', St F0 w0 w' (blkA nb (tkC t) :: ps) → K ⟨nb, 0, none⟩ w') :
    lt (⟨World.heapSize w, 0, none⟩ : Addr) fun a => lt (World.alloc w (.cells (zc Try.prog 78) 78)) fun w1 => (⟨tkC t⟩ : Array Value).size = 3 ∧ Go.Proofs.Ytkajimndclhgaaa.stA w1 a ⟨tkC t⟩ fun w2 => K a w2 := by
  rw [zc_tok]
  refine h.new fun nb w h => ⟨rfl, ?_⟩
  exact h.sA (l := [.int .u8 0, .int .i64 0, .int .i64 0]) rfl rfl (tkC_storable t) fun w h => hk nb w h
theorem St.rtokN {t : Tk} {K : Addr → World → Prop} (h : St F0 w0 w ps) (hk : ∀ nb w', St F0 w0 w' (blkA nb (tkC t) :: ps) → K ⟨nb, 0, none⟩ w') :
    lt (⟨World.heapSize w, 0, none⟩ : Addr) fun a => lt (World.alloc w (.cells (zc Try.prog 158) 158)) fun w1 => (⟨tkC t⟩ : Array Value).size = 3 ∧ Go.Proofs.Ytkajimndclhgaaa.stA w1 a ⟨tkC t⟩ fun w2 => K a w2 := by
  rw [zc_rtok]
  refine h.new fun nb w h => ⟨rfl, ?_⟩
  exact h.sA (l := [.int .u8 0, .int .i64 0, .int .i64 0]) rfl rfl (tkC_storable t) fun w h => hk nb w h

theorem St.tb0 {b : Nat} {t : Tk} {K : Int → Prop} (h : St F0 w0 w (blkA b (tkC t) :: ps)) (hk : K t.1) : ldI .u8 w (Addr.add ⟨b, 0, none⟩ 0) K := h.blk.ldI (o := 0) rfl hk
theorem St.tb1 {b : Nat} {t : Tk} {K : Int → Prop} (h : St F0 w0 w (blkA b (tkC t) :: ps)) (hk : K t.2.1) : ldI .i64 w (Addr.add ⟨b, 0, none⟩ 1) K := h.blk.ldI (o := 1) rfl hk
theorem St.tb2 {b : Nat} {t : Tk} {K : Int → Prop} (h : St F0 w0 w (blkA b (tkC t) :: ps)) (hk : K t.2.2) : ldI .i64 w (Addr.add ⟨b, 0, none⟩ 2) K := h.blk.ldI (o := 2) rfl hk

/-! ### 2. the program's -/

theorem tkBad_min {n : Nat} {t : Tk} : tkBad (min n 32768) t ↔ tkBad n t := by unfold tkBad; omega

theorem lz_wrong.c {t : Tk} {n : Nat} {K : Ending → World → Prop} (h : St F0 w0 w ps)
    (hk : ∀ w', St F0 w0 w' ps → K (.returned (.bool (decide (tkBad n t)))) w') : Calls Try.prog 128 ⟨[.agg ⟨tkC t⟩, .int .i64 (n : Int)]⟩ w K := by
  refine ret_k (lz_wrong.ok _ _ _ _ ?_)
  unfold lz_wrong
  refine h.new fun nb w h => ?_
  have h : St F0 w0 w (blkA nb (tkC t) :: ps) := h
  have hk := hk w h.drop
  have yes : tkBad n t → K (.returned (.bool true)) w := fun e => by rw [decide_eq_true e] at hk; exact hk
  refine h.tb1 (br_b (fun g => ?_) (fun g => ?_))
  · have g : t.2.1 = 0 := by simpa using g
    refine h.tb2 ?_
    have e : (t.2.2 != 0) = decide (tkBad n t) := by
      apply Bool.eq_iff_iff.2
      rw [bne_iff_ne, decide_eq_true_eq]
      unfold tkBad
      omega
    rw [e]; exact hk
  have g : t.2.1 ≠ 0 := by simpa using g
  refine h.tb0 (br_b (fun g1 => yes (by have g1 : t.1 ≠ 0 := (by simpa using g1); unfold tkBad; omega)) (fun g1 => ?_))
  have g1 : t.1 = 0 := by simpa using g1
  refine h.tb1 (br_d (fun g2 => yes (by unfold tkBad; omega)) (fun g2 => ?_))
  refine h.tb1 (br_d (fun g3 => yes (by unfold tkBad; omega)) (fun g3 => ?_))
  refine h.tb2 (br_d (fun g4 => yes (by unfold tkBad; omega)) (fun g4 => ?_))
  refine h.tb2 (br_d (fun g5 => yes (by unfold tkBad; omega)) (fun g5 => ?_))
  refine h.tb2 ?_
  have e : decide (t.2.2 > (n : Int)) = decide (tkBad n t) := by
    apply decide_eq_decide.2
    unfold tkBad
    omega
  rw [e]; exact hk

/-- tokens that are small enough to be told by their numbers -/
def tkWf (L : List Tk) : Prop := ∀ t ∈ L, -9223372036854775808 ≤ t.2.1 ∧ t.2.1 < 9223372036854775808 ∧ 0 ≤ t.1 ∧ t.1 < 256

theorem drop_tk {i : Nat} (h : i < L.length) : L.drop i = L[i] :: L.drop (i + 1) := List.drop_eq_getElem_cons h

theorem lz_Check.c {s : Sl} {K : Ending → World → Prop} (h : St F0 w0 w ps) [Rdb F0 w0 s ps 3 (tks L)] (hL : L.length ≤ 1000000000)
    (hk : ∀ w', St F0 w0 w' ps → K (.returned (.int .i64 (tkChk 0 L))) w') : Calls Try.prog 68 ⟨[.slice s.a s.len s.cap]⟩ w K := by
  have hl := (h.rdb s).1
  rw [tri_length] at hl
  refine ret_k (lz_Check.ok _ _ _ ?_)
  unfold lz_Check lz_Check.j1 lz_Check.j3
  refine loop2 (fun (a : Nat × Nat) (at' i' : Int) w' => i' = a.1 ∧ a.1 ≤ L.length ∧ at' = ((min a.2 32768 : Nat) : Int) ∧ tkChk a.2 (L.drop a.1) = tkChk 0 L ∧ St F0 w0 w' ps) (fun a => L.length - a.1) (0, 0) ⟨rfl, by simp, by simp, by simp, h⟩ ?_
  clear h
  rintro ⟨i, n⟩ at' i' w I μ ⟨rfl, hi, rfl, hc, h⟩ hin
  simp only at hi hc h hin ⊢
  unfold lz_Check.b1
  refine br_d (fun g => ?_) (fun g => ?_)
  · have hil : i < L.length := by omega
    rw [drop_tk hil, tkChk] at hc
    refine h.ltok (s := s) i rfl hil ?_
    generalize L[i] = t at hc ⊢
    refine h.tokN fun nb w h => ?_
    refine h.lA rfl ?_
    refine lz_wrong.c (n := min n 32768) h fun w h => ⟨_, rfl, ?_⟩
    rw [decide_eq_decide.2 (tkBad_min (n := n) (t := t))]
    refine br_d (fun g2 => ?_) (fun g2 => ?_)
    · rw [if_pos g2] at hc
      rw [← hc] at hk
      exact hk w h.drop
    · rw [if_neg g2] at hc
      refine h.tb1 ?_
      have htn : (if (1 : Int) > t.2.1 then 1 else t.2.1) = (tkN t : Int) := by
        unfold tkBad at g2
        unfold tkN
        split <;> split <;> omega
      have htn2 : tkN t ≤ 258 := by
        unfold tkBad at g2
        unfold tkN
        split <;> omega
      refine lt_as htn ?_
      refine lt_as (wrap_i64 (by omega) (by omega)) ?_
      refine lt_as (show (if (32768 : Int) < ((min n 32768 : Nat) : Int) + (tkN t : Int) then 32768 else ((min n 32768 : Nat) : Int) + (tkN t : Int)) = ((min (n + tkN t) 32768 : Nat) : Int) by split <;> omega) ?_
      refine lt_as (wrap_i64 (by omega) (by omega)) ?_
      exact ⟨⟨rfl, rfl⟩, hin (i + 1, n + tkN t) _ _ _ ⟨by simp, by simp only; omega, rfl, hc, h.drop⟩ (by simp only; omega)⟩
  · have : i = L.length := by omega
    subst this
    rw [List.drop_length, tkChk] at hc
    unfold lz_Check.j2
    rw [← hc] at hk
    exact hk w h

theorem tkK_le (t : Tk) : tkK t ≤ 258 := by unfold tkK; split; · omega
                                            · split <;> omega

theorem sum_sn {i : Nat} (h : i < L.length) : ((L.take (i + 1)).map tkK).sum = ((L.take i).map tkK).sum + tkK L[i] := by
  rw [List.take_succ_eq_append_getElem h, List.map_append, List.sum_append]
  simp

theorem lz_Size.c {s : Sl} {K : Ending → World → Prop} (h : St F0 w0 w ps) [Rdb F0 w0 s ps 3 (tks L)] (hL : L.length ≤ 1000000000)
    (hk : ∀ w', St F0 w0 w' ps → K (.returned (.int .i64 (tkSize L))) w') : Calls Try.prog 70 ⟨[.slice s.a s.len s.cap]⟩ w K := by
  have hl := (h.rdb s).1
  rw [tri_length] at hl
  refine ret_k (lz_Size.ok _ _ _ ?_)
  unfold lz_Size lz_Size.j1 lz_Size.j3
  refine loop2 (fun (i : Nat) (n i' : Int) w' => i' = i ∧ i ≤ L.length ∧ n = ((min (((L.take i).map tkK).sum) 262145 : Nat) : Int) ∧ St F0 w0 w' ps) (fun i => L.length - i) 0 ⟨rfl, by omega, by simp, h⟩ ?_
  clear h
  rintro i n i' wL I μ ⟨rfl, hi, rfl, h⟩ hin
  unfold lz_Size.b1
  refine br_d (fun g => ?_) (fun g => ?_)
  · have hil : i < L.length := by omega
    have hs := sum_sn hil
    have hkl := tkK_le L[i]
    refine h.ltok (s := s) i rfl hil ?_
    generalize L[i] = t at hs hkl ⊢
    refine h.tokN fun nb w h => ?_
    refine h.tb1 (h.tb1 ?_)
    have fin : ∀ k : Int, k = (tkK t : Int) → lt (IntKind.i64.wrap (((min (((L.take i).map tkK).sum) 262145 : Nat) : Int) + k)) fun x => lt (if (262145 : Int) < x then 262145 else x) fun y => lt (IntKind.i64.wrap ((i : Int) + 1)) fun z => ((s = s ∧ ((s.len : Nat) : Int) = ((s.len : Nat) : Int)) ∧ I y z w ∧ μ y z w < μ ((min (((L.take i).map tkK).sum) 262145 : Nat) : Int) (i : Int) wL) := by
      intro k hk
      subst hk
      refine lt_as (wrap_i64 (by omega) (by omega)) ?_
      refine lt_as (show (if (262145 : Int) < ((min (((L.take i).map tkK).sum) 262145 : Nat) : Int) + (tkK t : Int) then 262145 else ((min (((L.take i).map tkK).sum) 262145 : Nat) : Int) + (tkK t : Int)) = ((min (((L.take (i + 1)).map tkK).sum) 262145 : Nat) : Int) by split <;> omega) ?_
      refine lt_as (wrap_i64 (by omega) (by omega)) ?_
      exact ⟨⟨rfl, rfl⟩, hin (i + 1) _ _ _ ⟨by omega, by omega, rfl, h.drop⟩ (by omega)⟩
    refine br_b (fun g2 => ?_) (fun g2 => ?_)
    · have g2 : t.2.1 = 0 := by simpa using g2
      exact fin 1 (by unfold tkK; rw [if_pos g2]; rfl)
    have g2 : t.2.1 ≠ 0 := by simpa using g2
    refine h.tb1 (br_d (fun g3 => ?_) (fun g3 => ?_))
    · exact fin 0 (by unfold tkK; rw [if_neg g2, if_pos (by omega)]; rfl)
    refine h.tb1 (br_d (fun g4 => ?_) (fun g4 => ?_))
    · exact fin 0 (by unfold tkK; rw [if_neg g2, if_pos (by omega)]; rfl)
    · exact fin _ (by unfold tkK; rw [if_neg g2, if_neg (by omega)]; omega)
  · have : i = L.length := by omega
    subst this
    rw [List.take_length]
    unfold lz_Size.j2
    exact hk wL h

/-- what a copy's bytes are, byte by byte -/
theorem tkCopy_succ (d : Int) (k : Nat) (out : List Int) : tkCopy d (k + 1) out = tkCopy d k (out ++ [out.getD (out.length - d.toNat) 0]) := rfl

theorem tkChk_cons {n : Nat} {t : Tk} {r : List Tk} (h : tkChk n (t :: r) = 0) : ¬ tkBad n t ∧ tkChk (n + tkN t) r = 0 := by
  rw [tkChk] at h
  split at h
  · cases h
  · exact ⟨by assumption, h⟩

theorem lz_Expand.c {s : Sl} {most : Int} {K : Ending → World → Prop} (h : St F0 w0 w ps) [Rdb F0 w0 s ps 3 (tks L)] (hL : L.length ≤ 1000000) (hm : most < 9223372036854775808)
    (hk : ∀ s' w', s'.len = (tkExpand L most).1.length → s'.cap = s'.len → St F0 w0 w' (rdA 1 s' (u8s (tkExpand L most).1) :: ps) → K (.returned (.tuple ⟨[.slice s'.a s'.len s'.cap, .int .i64 (tkExpand L most).2]⟩)) w') :
    Calls Try.prog 66 ⟨[.slice s.a s.len s.cap, .int .i64 most]⟩ w K := by
  have hl := (h.rdb s).1
  rw [tri_length] at hl
  refine ret_k (lz_Expand.ok _ _ _ _ ?_)
  unfold lz_Expand
  refine lz_Check.c h (by omega) fun w h => ⟨_, rfl, ?_⟩
  unfold tkExpand at hk
  have nilS : ∀ {w}, St F0 w0 w ps → St F0 w0 w (rdA 1 ⟨none, 0, 0⟩ (u8s []) :: ps) := fun h => (h.nil 1).ro
  refine br_b (fun g => ?_) (fun g => ?_)
  · have g : tkChk 0 L ≠ 0 := by simpa using g
    rw [if_pos g] at hk
    have e2 : tkChk 0 L = 2 := by
      have : ∀ (L : List Tk) n, tkChk n L = 0 ∨ tkChk n L = 2 := by
        intro L
        induction L with
        | nil => intro n; exact Or.inl rfl
        | cons t L ih =>
          intro n
          rw [tkChk]
          split
          · exact Or.inr rfl
          · exact ih _
      rcases this L 0 with h | h
      · exact absurd h g
      · exact h
    rw [e2]
    exact hk ⟨none, 0, 0⟩ w rfl rfl (nilS h)
  have g : tkChk 0 L = 0 := by simpa using g
  rw [if_neg (fun e => e g)] at hk
  unfold lz_Expand.j1
  refine br_d (fun g2 => ?_) (fun g2 => ?_)
  · rw [if_pos g2] at hk
    exact hk ⟨none, 0, 0⟩ w rfl rfl (nilS h)
  rw [if_neg g2] at hk
  unfold lz_Expand.j2 lz_Expand.j4
  refine loop2 (fun (a : Nat × List Int) (o : Sl) (i' : Int) w' => i' = a.1 ∧ a.1 ≤ L.length ∧ a.2.length ≤ 258 * a.1 ∧ (a.2.length : Int) ≤ most ∧ tkChk a.2.length (L.drop a.1) = 0 ∧ tkAll most a.2 (L.drop a.1) = tkAll most [] L ∧ St F0 w0 w' (ownA 1 o (u8s a.2) :: ps)) (fun a => L.length - a.1) (0, [])
    ⟨rfl, by simp, by simp, by simp only [List.length_nil]; omega, by simpa using g, by simp, h.nil 1⟩ ?_
  clear h
  rintro ⟨i, out⟩ o i' wL I μ ⟨rfl, hi, hol, hom, hc, ha, h⟩ hin
  simp only at hi hol hom hc ha h hin ⊢
  have holen := h.len
  rw [ivs_length] at holen
  unfold lz_Expand.b1
  refine br_d (fun g3 => ?_) (fun g3 => ?_)
  · have hil : i < L.length := by omega
    rw [drop_tk hil] at hc ha
    obtain ⟨hb, hc⟩ := tkChk_cons hc
    rw [tkAll] at ha
    unfold lz_Expand.j5
    refine h.ltok (s := s) i rfl hil ?_
    generalize L[i] = t at hc ha hb ⊢
    refine h.tokN fun nb w h => ?_
    unfold lz_Expand.j7
    have htn : (if (1 : Int) > t.2.1 then 1 else t.2.1) = (tkN t : Int) := by
      unfold tkBad at hb
      unfold tkN
      split <;> split <;> omega
    have htn2 : 1 ≤ tkN t ∧ tkN t ≤ 258 := by
      unfold tkBad at hb
      unfold tkN
      split <;> omega
    refine h.tb1 (lt_as htn ?_)
    refine lt_as (wrap_i64 (by omega) (by omega)) ?_
    refine br_d (fun g4 => ?_) (fun g4 => ?_)
    · rw [if_pos (by omega)] at ha
      rw [← ha] at hk
      exact hk ⟨none, 0, 0⟩ w rfl rfl (nilS h.drop.drop)
    rw [if_neg (by omega)] at ha
    have fin : ∀ (o2 : Sl) (w' : World) (t19 : Int), t19 = (i : Int) → St F0 w0 w' (ownA 1 o2 (u8s (tkExp out t)) :: blkA nb (tkC t) :: ps) → lz_Expand.j6 most o2 s ((s.len : Nat) : Int) t19 (fun v w' => K (.returned v) w') (fun most_1' t17' t18' out_7' t19' w' => (most_1' = most ∧ t17' = s ∧ t18' = ((s.len : Nat) : Int)) ∧ I out_7' t19' w' ∧ μ out_7' t19' w' < μ o (i : Int) wL) w' := by
      intro o2 w' t19 e h
      subst e
      unfold lz_Expand.j6
      have hel := tkExp_length out t (by unfold tkBad at hb; omega)
      refine lt_as (wrap_i64 (by omega) (by omega)) ?_
      exact ⟨⟨rfl, rfl, rfl⟩, hin (i + 1, tkExp out t) _ _ _ ⟨by simp, by simp only; omega, by simp only; omega, by simp only; omega, by simp only; rw [hel]; exact hc, by simp only; exact ha, h.sub⟩ (by simp only; omega)⟩
    have cp : ∀ (o2 : Sl) (out2 : List Int) (w' : World) (m : Nat), t.2.1 = m → tkCopy t.2.2 m out2 = tkExp out t → out2.length + m ≤ 258 * i + 258 + 258 → (m = 0 ∨ (1 ≤ t.2.2 ∧ t.2.2 ≤ out2.length)) → St F0 w0 w' (ownA 1 o2 (u8s out2) :: blkA nb (tkC t) :: ps) → lz_Expand.j8 most o2 ⟨nb, 0, none⟩ s ((s.len : Nat) : Int) (i : Int) (fun v w' => K (.returned v) w') (fun most_1' t17' t18' out_7' t19' w' => (most_1' = most ∧ t17' = s ∧ t18' = ((s.len : Nat) : Int)) ∧ I out_7' t19' w' ∧ μ out_7' t19' w' < μ o (i : Int) wL) w' := by
      intro o2 out2 w' m hm2 he hlim hd h
      unfold lz_Expand.j8
      refine h.at1.tb1 ?_
      unfold lz_Expand.j9
      refine loop2 (fun (a : Nat × List Int) (o : Sl) (k' : Int) w' => k' = a.1 ∧ a.1 ≤ m ∧ tkCopy t.2.2 (m - a.1) a.2 = tkExp out t ∧ a.2.length = out2.length + a.1 ∧ St F0 w0 w' (ownA 1 o (u8s a.2) :: blkA nb (tkC t) :: ps)) (fun a => m - a.1) (0, out2) ⟨rfl, by simp, by simpa using he, by simp, h⟩ ?_
      clear h
      rintro ⟨k, o3⟩ q k' w I3 μ3 ⟨rfl, hkm, hcp, hlen, h⟩ hin3
      simp only at hkm hcp hlen h hin3 ⊢
      have hql := h.len
      rw [ivs_length] at hql
      unfold lz_Expand.b2
      rw [hm2]
      refine br_d (fun g5 => ?_) (fun g5 => ?_)
      · obtain ⟨f, hf⟩ : ∃ f, m - k = f + 1 := ⟨m - k - 1, by omega⟩
        rw [hf, tkCopy_succ] at hcp
        refine h.at1.tb2 ?_
        refine lt_as (show IntKind.i64.wrap (((q.len : Nat) : Int) - t.2.2) = ((o3.length - t.2.2.toNat : Nat) : Int) by rw [wrap_i64 (by omega) (by omega)]; omega) ?_
        refine h.lx (s := q) (o3.length - t.2.2.toNat) rfl (by omega) ?_
        refine h.pushI (s := q) (by omega) fun q2 w h => ?_
        refine lt_as (wrap_i64 (by omega) (by omega)) ?_
        refine ⟨⟨rfl, rfl, rfl, rfl, rfl, rfl⟩, hin3 (k + 1, o3 ++ [o3.getD (o3.length - t.2.2.toNat) 0]) _ _ _ ⟨by simp, by simp only; omega, ?_, by simp; omega, h⟩ (by simp only; omega)⟩
        simp only
        rw [show m - (k + 1) = f by omega]
        exact hcp
      · have : k = m := by omega
        subst this
        rw [Nat.sub_self, tkCopy] at hcp
        rw [hcp] at h
        exact fin q w _ rfl h
    refine h.tb1 (br_b (fun g5 => ?_) (fun g5 => ?_))
    · have g5 : t.2.1 = 0 := by simpa using g5
      refine h.tb0 ?_
      refine h.pushI (s := o) (by omega) fun o2 w h => ?_
      refine cp o2 _ _ 0 g5 ?_ (by simp; omega) (Or.inl rfl) h
      unfold tkExp
      rw [if_pos g5]; rfl
    · have g5 : t.2.1 ≠ 0 := by simpa using g5
      have hb2 := hb
      unfold tkBad at hb2
      refine cp o out _ t.2.1.toNat (by omega) ?_ (by omega) (Or.inr (by omega)) h.at1
      unfold tkExp
      rw [if_neg g5]
  · have : i = L.length := by omega
    subst this
    rw [List.drop_length, tkAll] at ha
    unfold lz_Expand.j3
    rw [← ha] at hk
    have hcap := h.cap (by decide)
    refine slices_Clip_byte.c h.ro hcap fun s2 h1 h2 h => ⟨s2, rfl, ?_⟩
    exact hk s2 wL (by simp only; omega) (by omega) h

end

end Go.Proofs.Ytkajimndclhgaaa

/- Tokens: checked, counted, expanded: the document's texts. Own work. -/
namespace Go.Proofs.Ytkajimndclhgaaa
open Go Go.Proofs
set_option linter.unusedVariables false
set_option linter.unusedSimpArgs false
attribute [local irreducible] apK cpK mkK br

section
variable {F0 : List Nat} {w0 w : World} {ps rest : List As} {L : List Tk}

theorem troveref8_Check.c {s : Sl} {K : Ending → World → Prop} (h : St F0 w0 w ps) [Rdb F0 w0 s ps 3 (tks L)] (hL : L.length ≤ 1000000000)
    (hk : ∀ w', St F0 w0 w' ps → K (.returned (.int .i64 (tkChk 0 L))) w') : Calls Try.prog 69 ⟨[.slice s.a s.len s.cap]⟩ w K := by
  have hl := (h.rdb s).1
  rw [tri_length] at hl
  refine ret_k (troveref8_Check.ok _ _ _ ?_)
  unfold troveref8_Check troveref8_Check.j1 troveref8_Check.j3
  refine loop2 (fun (a : Nat × Nat) (n i' : Int) w' => i' = a.1 ∧ a.1 ≤ L.length ∧ n = (a.2 : Int) ∧ a.2 ≤ 258 * a.1 ∧ tkChk a.2 (L.drop a.1) = tkChk 0 L ∧ St F0 w0 w' ps) (fun a => L.length - a.1) (0, 0) ⟨rfl, by simp, by simp, by simp, by simp, h⟩ ?_
  clear h
  rintro ⟨i, n⟩ n' i' wL I μ ⟨rfl, hi, rfl, hn, hc, h⟩ hin
  simp only at hi hn hc h hin ⊢
  unfold troveref8_Check.b1
  refine br_d (fun g => ?_) (fun g => ?_)
  · have hil : i < L.length := by omega
    rw [drop_tk hil, tkChk] at hc
    unfold troveref8_Check.j4
    refine h.ltok (s := s) i rfl hil ?_
    generalize L[i] = t at hc ⊢
    refine h.rtokN fun nb w h => ?_
    have yes : tkBad n t → K (.returned (.int .i64 2)) w := fun e => by
      rw [if_pos e] at hc
      rw [← hc] at hk
      exact hk w h.drop
    have next : ¬ tkBad n t → ∀ x : Int, x = (n : Int) + (tkN t : Int) → tkN t ≤ 258 → troveref8_Check.j5 s x (i : Int) (fun v w' => K (.returned v) w') (fun l_0' n_3' i_4' w' => (l_0' = s) ∧ I n_3' i_4' w' ∧ μ n_3' i_4' w' < μ (n : Int) (i : Int) wL) w := by
      intro e x hx hle
      rw [if_neg e] at hc
      subst hx
      unfold troveref8_Check.j5
      refine lt_as (wrap_i64 (by omega) (by omega)) ?_
      exact ⟨rfl, hin (i + 1, n + tkN t) _ _ _ ⟨by simp, by simp only; omega, by simp, by simp only; omega, hc, h.drop⟩ (by simp only; omega)⟩
    have big : ¬ (t.2.1 = 0 ∧ t.2.2 = 0) → troveref8_Check.j6 s (n : Int) (i : Int) ⟨nb, 0, none⟩ (fun v w' => K (.returned v) w') (fun l_0' n_3' i_4' w' => (l_0' = s) ∧ I n_3' i_4' w' ∧ μ n_3' i_4' w' < μ (n : Int) (i : Int) wL) w := by
      intro e
      unfold troveref8_Check.j6
      refine h.tb0 (br_b (fun g1 => yes (by have g1 : t.1 ≠ 0 := (by simpa using g1); unfold tkBad; omega)) (fun g1 => ?_))
      have g1 : t.1 = 0 := by simpa using g1
      refine h.tb1 (br_d (fun g2 => yes (by unfold tkBad; omega)) (fun g2 => ?_))
      refine h.tb1 (br_d (fun g3 => yes (by unfold tkBad; omega)) (fun g3 => ?_))
      refine h.tb2 (br_d (fun g4 => yes (by unfold tkBad; omega)) (fun g4 => ?_))
      refine h.tb2 (br_d (fun g5 => yes (by unfold tkBad; omega)) (fun g5 => ?_))
      refine h.tb2 (br_d (fun g6 => yes (by unfold tkBad; omega)) (fun g6 => ?_))
      refine h.tb1 ?_
      have e1 : (tkN t : Int) = t.2.1 := by unfold tkN; rw [if_neg (by omega)]; omega
      refine lt_as (wrap_i64 (by omega) (by omega)) ?_
      exact next (by unfold tkBad; omega) _ (by omega) (by omega)
    refine h.tb1 (br_b (fun g2 => ?_) (fun g2 => big (fun e => by rw [e.1] at g2; simp at g2)))
    have g2 : t.2.1 = 0 := by simpa using g2
    refine h.tb2 (br_b (fun g3 => ?_) (fun g3 => big (fun e => by rw [e.2] at g3; simp at g3)))
    have g3 : t.2.2 = 0 := by simpa using g3
    have e1 : tkN t = 1 := by unfold tkN; rw [if_pos g2]
    refine lt_as (wrap_i64 (by omega) (by omega)) ?_
    exact next (by unfold tkBad; omega) _ (by omega) (by omega)
  · have : i = L.length := by omega
    subst this
    rw [List.drop_length, tkChk] at hc
    unfold troveref8_Check.j2
    rw [← hc] at hk
    exact hk wL h

theorem sum_mono (i : Nat) : ((L.take i).map tkK).sum ≤ (L.map tkK).sum := by
  conv => rhs; rw [← List.take_append_drop i L, List.map_append, List.sum_append]
  omega

theorem troveref8_Size.c {s : Sl} {K : Ending → World → Prop} (h : St F0 w0 w ps) [Rdb F0 w0 s ps 3 (tks L)] (hL : L.length ≤ 1000000000)
    (hk : ∀ w', St F0 w0 w' ps → K (.returned (.int .i64 (tkSize L))) w') : Calls Try.prog 71 ⟨[.slice s.a s.len s.cap]⟩ w K := by
  have hl := (h.rdb s).1
  rw [tri_length] at hl
  refine ret_k (troveref8_Size.ok _ _ _ ?_)
  unfold troveref8_Size troveref8_Size.j1 troveref8_Size.j3
  refine loop2 (fun (i : Nat) (n i' : Int) w' => i' = i ∧ i ≤ L.length ∧ n = ((((L.take i).map tkK).sum : Nat) : Int) ∧ ((L.take i).map tkK).sum ≤ 262144 ∧ St F0 w0 w' ps) (fun i => L.length - i) 0 ⟨rfl, by omega, by simp, by simp, h⟩ ?_
  clear h
  rintro i n i' wL I μ ⟨rfl, hi, rfl, hn, h⟩ hin
  unfold troveref8_Size.b1
  refine br_d (fun g => ?_) (fun g => ?_)
  · have hil : i < L.length := by omega
    have hs := sum_sn hil
    have hkl := tkK_le L[i]
    have hmo := sum_mono (L := L) (i + 1)
    have fin : ∀ x : Int, x = ((((L.take i).map tkK).sum : Nat) : Int) + (tkK L[i] : Int) → troveref8_Size.j6 s x (i : Int) (fun v w' => K (.returned v) w') (fun l_0' n_3' i_4' w' => (l_0' = s) ∧ I n_3' i_4' w' ∧ μ n_3' i_4' w' < μ ((((L.take i).map tkK).sum : Nat) : Int) (i : Int) wL) wL := by
      intro x hx
      subst hx
      unfold troveref8_Size.j6
      refine br_d (fun g2 => ?_) (fun g2 => ?_)
      · have e : tkSize L = 262145 := by unfold tkSize; omega
        rw [e] at hk
        exact hk wL h
      · unfold troveref8_Size.j5
        refine lt_as (wrap_i64 (by omega) (by omega)) ?_
        exact ⟨rfl, hin (i + 1) _ _ _ ⟨by omega, by omega, by omega, by omega, h⟩ (by omega)⟩
    unfold troveref8_Size.j4
    refine h.lt1 (s := s) i rfl hil ?_
    unfold troveref8_Size.j7
    refine br_b (fun g2 => ?_) (fun g2 => ?_)
    · have g2 : L[i].2.1 = 0 := by simpa using g2
      have e : tkK L[i] = 1 := by unfold tkK; rw [if_pos g2]
      refine lt_as (wrap_i64 (by omega) (by omega)) ?_
      exact fin _ (by omega)
    have g2 : L[i].2.1 ≠ 0 := by simpa using g2
    refine h.lt1 (s := s) i rfl hil ?_
    unfold troveref8_Size.j8
    refine br_d (fun g3 => ?_) (fun g3 => ?_)
    · refine h.lt1 (s := s) i rfl hil ?_
      refine br_d (fun g4 => ?_) (fun g4 => ?_)
      · have e : tkK L[i] = L[i].2.1.toNat := by unfold tkK; rw [if_neg g2, if_neg (by omega)]
        refine h.lt1 (s := s) i rfl hil ?_
        refine lt_as (wrap_i64 (by omega) (by omega)) ?_
        exact fin _ (by omega)
      · have e : tkK L[i] = 0 := by unfold tkK; rw [if_neg g2, if_pos (by omega)]
        exact fin _ (by omega)
    · have e : tkK L[i] = 0 := by unfold tkK; rw [if_neg g2, if_pos (by omega)]
      exact br_f1 (fin _ (by omega))
  · have : i = L.length := by omega
    subst this
    rw [List.take_length] at hn
    rw [List.take_length]
    have e : tkSize L = (L.map tkK).sum := by unfold tkSize; omega
    rw [e] at hk
    unfold troveref8_Size.j2
    exact hk wL h

theorem troveref8_Expand.c {s : Sl} {most : Int} {K : Ending → World → Prop} (h : St F0 w0 w ps) [Rdb F0 w0 s ps 3 (tks L)] (hL : L.length ≤ 1000000) (hm : most < 9223372036854775808) (hm0 : -9223372036854775808 ≤ most)
    (hk : ∀ s' w', s'.len = (tkExpand L most).1.length → St F0 w0 w' (rdA 1 s' (u8s (tkExpand L most).1) :: ps) → K (.returned (.tuple ⟨[.slice s'.a s'.len s'.cap, .int .i64 (tkExpand L most).2]⟩)) w') :
    Calls Try.prog 67 ⟨[.slice s.a s.len s.cap, .int .i64 most]⟩ w K := by
  have hl := (h.rdb s).1
  rw [tri_length] at hl
  refine ret_k (troveref8_Expand.ok _ _ _ _ ?_)
  unfold troveref8_Expand troveref8_Expand.j1
  refine troveref8_Check.c h (by omega) fun w h => ⟨_, rfl, ?_⟩
  have nil : ∀ {w}, St F0 w0 w ps → St F0 w0 w (rdA 1 ⟨none, 0, 0⟩ (u8s []) :: ps) := fun h => (h.nil 1).ro
  unfold tkExpand at hk
  refine br_b (fun g => ?_) (fun g => ?_)
  · have g : tkChk 0 L ≠ 0 := by simpa using g
    rw [if_pos g] at hk
    exact hk ⟨none, 0, 0⟩ w rfl (nil h)
  have g : tkChk 0 L = 0 := by simpa using g
  rw [if_neg (fun e => e g)] at hk
  unfold troveref8_Expand.j2 troveref8_Expand.j4
  have bad : most < 0 → ∀ {w}, St F0 w0 w ps → K (.returned (.tuple ⟨[.slice none 0 0, .int .i64 5]⟩)) w := fun g2 w h => by
    rw [if_pos g2] at hk
    exact hk ⟨none, 0, 0⟩ w rfl (nil h)
  refine loop2 (fun (a : Nat × List Int) (o : Sl) (i' : Int) w' => i' = a.1 ∧ a.1 ≤ L.length ∧ a.2.length ≤ 258 * a.1 ∧ (most < 0 → a.2 = []) ∧ (0 ≤ most → (a.2.length : Int) ≤ most) ∧ tkChk a.2.length (L.drop a.1) = 0 ∧ tkAll most a.2 (L.drop a.1) = tkAll most [] L ∧ St F0 w0 w' (ownA 1 o (u8s a.2) :: ps)) (fun a => L.length - a.1) (0, [])
    ⟨rfl, by simp, by simp, fun _ => rfl, by simp, by simpa using g, by simp, h.nil 1⟩ ?_
  clear h
  rintro ⟨i, out⟩ o i' wL I μ ⟨rfl, hi, hol, hneg, hom, hc, ha, h⟩ hin
  simp only at hi hol hneg hom hc ha h hin ⊢
  have holen := h.len
  rw [ivs_length] at holen
  unfold troveref8_Expand.b1
  refine br_d (fun g3 => ?_) (fun g3 => ?_)
  · have hil : i < L.length := by omega
    rw [drop_tk hil] at hc ha
    obtain ⟨hb, hc⟩ := tkChk_cons hc
    rw [tkAll] at ha
    have htn2 : 1 ≤ tkN L[i] ∧ tkN L[i] ≤ 258 := by
      unfold tkBad at hb
      unfold tkN
      split <;> omega
    have j7 : ∀ n : Int, n = (tkN L[i] : Int) → troveref8_Expand.j7 s most o (i : Int) n (fun v w' => K (.returned v) w') (fun d_0' i_1' t6' t7' w' => (d_0' = s ∧ i_1' = most) ∧ I t6' t7' w' ∧ μ t6' t7' w' < μ o (i : Int) wL) wL := by
      intro n hn
      subst hn
      unfold troveref8_Expand.j7
      by_cases hneg2 : most < 0
      · have ho := hneg hneg2
        subst ho
        simp only [List.length_nil] at holen
        refine lt_as (show IntKind.i64.wrap (most - ((o.len : Nat) : Int)) = most by rw [wrap_i64 (by omega) (by omega)]; omega) ?_
        refine br_d (fun _ => bad hneg2 h.drop) (fun g4 => by omega)
      have hom := hom (by omega)
      rw [if_neg hneg2] at hk
      refine lt_as (wrap_i64 (by omega) (by omega)) ?_
      refine br_d (fun g4 => ?_) (fun g4 => ?_)
      · rw [if_pos (by omega)] at ha
        rw [← ha] at hk
        exact hk ⟨none, 0, 0⟩ wL rfl (nil h.drop)
      rw [if_neg (by omega)] at ha
      refine br_d (fun g5 => by omega) (fun g5 => ?_)
      have fin : ∀ (o2 : Sl) (w' : World), St F0 w0 w' (ownA 1 o2 (u8s (tkExp out L[i])) :: ps) → troveref8_Expand.j6 s most o2 (i : Int) (fun v w' => K (.returned v) w') (fun d_0' i_1' t6' t7' w' => (d_0' = s ∧ i_1' = most) ∧ I t6' t7' w' ∧ μ t6' t7' w' < μ o (i : Int) wL) w' := by
        intro o2 w' h
        have hel := tkExp_length out L[i] (by unfold tkBad at hb; omega)
        unfold troveref8_Expand.j6
        refine lt_as (wrap_i64 (by omega) (by omega)) ?_
        exact ⟨⟨rfl, rfl⟩, hin (i + 1, tkExp out L[i]) _ _ _ ⟨by simp, by simp only; omega, by simp only; omega, fun e => by omega, fun _ => by simp only; omega, by simp only; rw [hel]; exact hc, by simp only; exact ha, h⟩ (by simp only; omega)⟩
      unfold troveref8_Expand.j8
      refine h.lt1 (s := s) i rfl hil ?_
      refine br_b (fun g6 => ?_) (fun g6 => ?_)
      · have g6 : L[i].2.1 = 0 := by simpa using g6
        refine h.lt0 (s := s) i rfl hil ?_
        refine h.pushI (s := o) (by omega) fun o2 w h => ?_
        refine fin o2 w ?_
        unfold tkExp
        rw [if_pos g6]
        exact h
      · have g6 : L[i].2.1 ≠ 0 := by simpa using g6
        have hb2 := hb
        unfold tkBad at hb2
        have htm : tkN L[i] = L[i].2.1.toNat := by unfold tkN; rw [if_neg g6]
        have he : tkCopy L[i].2.2 L[i].2.1.toNat out = tkExp out L[i] := by unfold tkExp; rw [if_neg g6]
        unfold troveref8_Expand.j9
        generalize hm3 : L[i].2.1.toNat = m at he htm
        refine loop2 (fun (a : Nat × List Int) (o : Sl) (k' : Int) w' => k' = a.1 ∧ a.1 ≤ m ∧ tkCopy L[i].2.2 (m - a.1) a.2 = tkExp out L[i] ∧ a.2.length = out.length + a.1 ∧ St F0 w0 w' (ownA 1 o (u8s a.2) :: ps)) (fun a => m - a.1) (0, out) ⟨rfl, by simp, by simpa using he, by simp, h⟩ ?_
        clear h
        rintro ⟨k, o3⟩ q k' w I3 μ3 ⟨rfl, hkm, hcp, hlen, h⟩ hin3
        simp only at hkm hcp hlen h hin3 ⊢
        have hql := h.len
        rw [ivs_length] at hql
        unfold troveref8_Expand.b2
        refine br_d (fun g7 => ?_) (fun g7 => ?_)
        · obtain ⟨f, hf⟩ : ∃ f, m - k = f + 1 := ⟨m - k - 1, by omega⟩
          rw [hf, tkCopy_succ] at hcp
          refine h.lt2 (s := s) i rfl hil ?_
          refine lt_as (show IntKind.i64.wrap (((q.len : Nat) : Int) - L[i].2.2) = ((o3.length - L[i].2.2.toNat : Nat) : Int) by rw [wrap_i64 (by omega) (by omega)]; omega) ?_
          refine h.lx (s := q) (o3.length - L[i].2.2.toNat) rfl (by omega) ?_
          refine h.pushI (s := q) (by omega) fun q2 w h => ?_
          refine lt_as (wrap_i64 (by omega) (by omega)) ?_
          refine ⟨⟨rfl, rfl, rfl, rfl⟩, hin3 (k + 1, o3 ++ [o3.getD (o3.length - L[i].2.2.toNat) 0]) _ _ _ ⟨by simp, by simp only; omega, ?_, by simp; omega, h⟩ (by simp only; omega)⟩
          simp only
          rw [show m - (k + 1) = f by omega]
          exact hcp
        · have : k = m := by omega
          subst this
          rw [Nat.sub_self, tkCopy] at hcp
          rw [hcp] at h
          exact fin q w h
    unfold troveref8_Expand.j5
    refine h.lt1 (s := s) i rfl hil ?_
    refine br_b (fun g4 => j7 1 ?_) (fun g4 => ?_)
    · have g4 : L[i].2.1 = 0 := by simpa using g4
      unfold tkN; rw [if_pos g4]; rfl
    · have g4 : L[i].2.1 ≠ 0 := by simpa using g4
      refine j7 _ ?_
      unfold tkBad at hb
      unfold tkN; rw [if_neg g4]; omega
  · have : i = L.length := by omega
    subst this
    rw [List.drop_length, tkAll] at ha
    unfold troveref8_Expand.j3
    refine br_d (fun g4 => bad g4 h.drop) (fun g4 => ?_)
    rw [if_neg g4] at hk
    rw [← ha] at hk
    exact hk o wL (by simp only; omega) h.ro

end

end Go.Proofs.Ytkajimndclhgaaa

/- The finder: its map, its row, its walk. Own work. -/
namespace Go.Proofs.Ytkajimndclhgaaa
open Go Go.Proofs Go.ChangeShapes Go.WideShapes Go.MapKept Go.Maps
set_option linter.unusedVariables false
set_option linter.unusedSimpArgs false
attribute [local irreducible] apK cpK mkK br

/-! ### 1. keys of three bytes -/

abbrev kyL (k : Int × Int × Int) : List Value := [.int .u8 k.1, .int .u8 k.2.1, .int .u8 k.2.2]
def kyV (k : Int × Int × Int) : Value := .agg ⟨kyL k⟩
theorem kyV_inj {a b : Int × Int × Int} (h : kyV a = kyV b) : a = b := by
  obtain ⟨a1, a2, a3⟩ := a
  obtain ⟨b1, b2, b3⟩ := b
  simpa [kyV] using h
def kyB (k : Int × Int × Int) : Prop := (0 ≤ k.1 ∧ k.1 < 256) ∧ (0 ≤ k.2.1 ∧ k.2.1 < 256) ∧ (0 ≤ k.2.2 ∧ k.2.2 < 256)

theorem key_lit {P : Program} {t e : TypeId} {m : Nat} (h1 : P.underlying t = some (.array 3 e)) (h2 : P.underlying e = some (.int .u8)) (h3 : P.cellsOf t = 3) (h4 : P.cellsOf e = 1) (h5 : P.keyType t = true) (h6 : P.types.size + 1 = m + 2) {k : Int × Int × Int} (hk : kyB k) : ∃ l, keyOf P t (kyV k) = some l := by
  obtain ⟨⟨a1, a2⟩, ⟨b1, b2⟩, ⟨c1, c2⟩⟩ := hk
  have wf : ∀ n : Int, 0 ≤ n → n < 256 → (Lit.int .u8 n).wf = true := by
    intro n h0 h1
    simp [Lit.wf, show IntKind.u8.min = 0 from rfl, show IntKind.u8.max = 255 from rfl]
    omega
  have e1 : ∀ n : Int, 0 ≤ n → n < 256 → P.keyLits (m + 1) e [.int .u8 n] = some [.int .u8 n] := by
    intro n h0 h1
    unfold Program.keyLits
    rw [h2]
    simp [wf n h0 h1]
  have e2 : ∃ ls, P.keyLits (m + 2) t (kyL k) = some ls := by
    unfold Program.keyLits
    rw [h1]
    simp only [h3, h4]
    rw [if_pos (show (kyL k).length = 3 from rfl), show List.range 3 = [0, 1, 2] from rfl]
    simp [e1 _ a1 a2, e1 _ b1 b2, e1 _ c1 c2]
  obtain ⟨ls, e2⟩ := e2
  unfold keyOf
  rw [h1]
  have e3 : (kyV k).formed P t = true := by simp [kyV, Value.formed, h1, h3]
  have e4 : (kyV k).cells.toList = kyL k := rfl
  simp only [h5, e3, e4, h6, e2]
  exact ⟨_, rfl⟩

theorem ky_keyed : Keyed Try.prog 194 := keyed_deep f_laid (m := 2) (by omega) (of_decide_eq_true (by kernel_rfl)) (by kernel_rfl) (by kernel_rfl)
theorem ky_lit {k : Int × Int × Int} (hk : kyB k) : ∃ l, keyOf Try.prog 194 (kyV k) = some l :=
  key_lit (e := 5) (m := Try.prog.types.size - 1) (by kernel_rfl) (by kernel_rfl) (by kernel_rfl) (by kernel_rfl) (by kernel_rfl) (by kernel_rfl) hk
theorem ky_map : Try.prog.underlying 161 = some (.map 194 3) := by kernel_rfl

/-! ### 2. the map of keys -/

abbrev kvl (E : List ((Int × Int × Int) × Int)) : List (Value × Value) := E.map fun e => (kyV e.1, .int .i64 e.2)

section
variable {F0 : List Nat} {w0 w : World} {ps rest : List As} {b : Nat} {E : List ((Int × Int × Int) × Int)} {k : Int × Int × Int}

theorem kvl_lit (hE : ∀ e ∈ E, kyB e.1) : ∀ p ∈ kvl E, ∃ l, keyOf Try.prog 194 p.1 = some l := by
  intro p hp
  obtain ⟨e, he, rfl⟩ := List.mem_map.1 hp
  exact ky_lit (hE e he)

theorem St.klook {K : Int → Bool → Prop} (h : St F0 w0 w ps) [PkF mpA b ps (kvl E) rest] (hE : ∀ e ∈ E, kyB e.1) (hk : kyB k) (h1 : (∀ e ∈ E, e.1 ≠ k) → K 0 false) (h2 : ∀ e ∈ E, e.1 = k → K e.2 true) :
    ∃ r20 : Int, ∃ r21 : Bool, lkR Try.prog 161 (.map (some b)) (.agg ⟨kyL k⟩) true w (.tuple ⟨[.int .i64 r20, .bool r21]⟩) ∧ K r20 r21 := by
  have hz : (zeroValue (3 : TypeId)).run Try.prog w = .ok (.int .i64 0) w := by kernel_rfl
  rcases (h.toF mpA b).mlook ky_keyed ky_map (kvl_lit hE) true hz (ky_lit hk) with ⟨h3, h4⟩ | ⟨j, p, h3, h4, h5⟩
  · refine ⟨0, false, h3, h1 fun e he hne => ?_⟩
    exact h4 (kyV e.1, .int .i64 e.2) (List.mem_map.2 ⟨e, he, rfl⟩) (by rw [hne])
  · rw [List.getElem?_map] at h3
    cases he : E[j]? with
    | none => rw [he] at h3; cases h3
    | some e =>
      rw [he] at h3
      injection h3 with h3
      subst h3
      have hm : e ∈ E := List.mem_of_getElem? he
      exact ⟨e.2, true, h5, h2 e hm (kyV_inj h4)⟩

theorem St.kset {v : Int} {K : World → Prop} (h : St F0 w0 w ps) [PkF mpA b ps (kvl E) rest] (hE : ∀ e ∈ E, kyB e.1) (hk : kyB k)
    (hK : ∀ E' w', St F0 w0 w' (mpA b (kvl E') :: rest) → ((E' = E ++ [(k, v)] ∧ ∀ e ∈ E, e.1 ≠ k) ∨ ∃ j, ∃ e : (Int × Int × Int) × Int, E[j]? = some e ∧ e.1 = k ∧ E' = E.set j (k, v)) → K w') :
    ∃ w', muR Try.prog 161 (.map (some b)) (.agg ⟨kyL k⟩) (.int .i64 v) w w' ∧ K w' := by
  refine (h.toF mpA b).mset ky_keyed ky_map (kvl_lit hE) (ky_lit hk) fun kv' w' h he => ?_
  rcases he with ⟨rfl, h1⟩ | ⟨j, p, h1, h2, rfl⟩
  · refine hK (E ++ [(k, v)]) w' (by rw [show kvl (E ++ [(k, v)]) = kvl E ++ [(.agg ⟨kyL k⟩, .int .i64 v)] by simp [kyV]]; exact h) (Or.inl ⟨rfl, fun e he hne => ?_⟩)
    exact h1 (kyV e.1, .int .i64 e.2) (List.mem_map.2 ⟨e, he, rfl⟩) (by rw [hne]; rfl)
  · rw [List.getElem?_map] at h1
    cases he : E[j]? with
    | none => rw [he] at h1; cases h1
    | some e =>
      rw [he] at h1
      injection h1 with h1
      subst h1
      refine hK (E.set j (k, v)) w' (by rw [show kvl (E.set j (k, v)) = (kvl E).set j (.agg ⟨kyL k⟩, .int .i64 v) by rw [kvl, List.map_set]; rfl]; exact h) (Or.inr ⟨j, e, he, kyV_inj h2, rfl⟩)

end

/-! ### 3. what the map and the row hold -/

structure KM (b : List Int) (E : List ((Int × Int × Int) × Int)) (n : Nat) : Prop where
  val : ∀ (j : Nat) (e : (Int × Int × Int) × Int), E[j]? = some e → ∃ i : Nat, e.2 = (i : Int) ∧ lastK b e.1 n = some i
  all : ∀ k i, lastK b k n = some i → ∃ (j : Nat) (e : (Int × Int × Int) × Int), E[j]? = some e ∧ e.1 = k
  one : ∀ (i j : Nat) (e e' : (Int × Int × Int) × Int), E[i]? = some e → E[j]? = some e' → e.1 = e'.1 → i = j

theorem KM.nil (b : List Int) : KM b [] 0 := ⟨fun j e h => (by simp at h), fun k i h => (by cases h), fun i j e e' h => (by simp at h)⟩

theorem KM.next {b : List Int} {E E' : List ((Int × Int × Int) × Int)} {n : Nat} (h : KM b E n)
    (he : (E' = E ++ [(key3 b n, (n : Int))] ∧ ∀ e ∈ E, e.1 ≠ key3 b n) ∨ ∃ j, ∃ e : (Int × Int × Int) × Int, E[j]? = some e ∧ e.1 = key3 b n ∧ E' = E.set j (key3 b n, (n : Int))) : KM b E' (n + 1) := by
  rcases he with ⟨rfl, hn⟩ | ⟨j0, e0, hj0, he0, rfl⟩
  · have sn : ∀ j e, (E ++ [(key3 b n, (n : Int))])[j]? = some e → E[j]? = some e ∨ (j = E.length ∧ e = (key3 b n, (n : Int))) := by
      intro j e hj
      rcases Nat.lt_or_ge j E.length with h1 | h1
      · rw [List.getElem?_append_left h1] at hj; exact Or.inl hj
      · rw [List.getElem?_append_right h1] at hj
        have : j = E.length := by
          rcases Nat.eq_or_lt_of_le h1 with h2 | h2
          · exact h2.symm
          · rw [List.getElem?_eq_none (by simp; omega)] at hj; cases hj
        subst this
        simp at hj
        exact Or.inr ⟨rfl, hj.symm⟩
    refine ⟨fun j e hj => ?_, fun k i hi => ?_, fun i j e e' hi hj hk => ?_⟩
    · rcases sn j e hj with h1 | ⟨_, rfl⟩
      · obtain ⟨i, h2, h3⟩ := h.val j e h1
        refine ⟨i, h2, ?_⟩
        rw [lastK, if_neg (fun e2 => hn e (List.mem_of_getElem? h1) e2.symm)]
        exact h3
      · refine ⟨n, rfl, ?_⟩
        rw [lastK, if_pos rfl]
    · rw [lastK] at hi
      split at hi
      · rename_i hk
        exact ⟨E.length, (key3 b n, (n : Int)), by simp, hk⟩
      · obtain ⟨j, e, h1, h2⟩ := h.all k i hi
        refine ⟨j, e, ?_, h2⟩
        rw [List.getElem?_append_left (List.getElem?_eq_some_iff.1 h1).1]
        exact h1
    · rcases sn i e hi with h1 | ⟨rfl, rfl⟩
      · rcases sn j e' hj with h2 | ⟨rfl, rfl⟩
        · exact h.one i j e e' h1 h2 hk
        · exact absurd hk (hn e (List.mem_of_getElem? h1))
      · rcases sn j e' hj with h2 | ⟨rfl, rfl⟩
        · exact absurd hk.symm (hn e' (List.mem_of_getElem? h2))
        · rfl
  · have hlt : j0 < E.length := (List.getElem?_eq_some_iff.1 hj0).1
    have sn : ∀ j e, (E.set j0 (key3 b n, (n : Int)))[j]? = some e → (j = j0 ∧ e = (key3 b n, (n : Int))) ∨ (j ≠ j0 ∧ E[j]? = some e) := by
      intro j e hj
      rw [List.getElem?_set] at hj
      by_cases h1 : j0 = j
      · subst h1
        rw [if_pos rfl, if_pos hlt] at hj
        injection hj with hj
        exact Or.inl ⟨rfl, hj.symm⟩
      · rw [if_neg h1] at hj
        exact Or.inr ⟨fun e => h1 e.symm, hj⟩
    refine ⟨fun j e hj => ?_, fun k i hi => ?_, fun i j e e' hi hj hk => ?_⟩
    · rcases sn j e hj with ⟨rfl, rfl⟩ | ⟨hne, h1⟩
      · refine ⟨n, rfl, ?_⟩
        rw [lastK, if_pos rfl]
      · obtain ⟨i, h2, h3⟩ := h.val j e h1
        refine ⟨i, h2, ?_⟩
        rw [lastK, if_neg (fun e2 => hne (h.one j j0 e e0 h1 hj0 (e2.symm.trans he0.symm)))]
        exact h3
    · rw [lastK] at hi
      split at hi
      · rename_i hk
        refine ⟨j0, (key3 b n, (n : Int)), ?_, hk⟩
        rw [List.getElem?_set, if_pos rfl, if_pos hlt]
      · rename_i hk
        obtain ⟨j, e, h1, h2⟩ := h.all k i hi
        refine ⟨j, e, ?_, h2⟩
        rw [List.getElem?_set, if_neg, h1]
        intro hjj
        subst hjj
        rw [hj0] at h1
        injection h1 with h1
        subst h1
        exact hk (he0.symm.trans h2)
    · rcases sn i e hi with ⟨rfl, rfl⟩ | ⟨hne, h1⟩
      · rcases sn j e' hj with ⟨rfl, rfl⟩ | ⟨hne2, h2⟩
        · rfl
        · exact absurd (h.one j i e' e0 h2 hj0 (hk.symm.trans he0.symm)) hne2
      · rcases sn j e' hj with ⟨rfl, rfl⟩ | ⟨hne2, h2⟩
        · exact absurd (h.one i j e e0 h1 hj0 (hk.trans he0.symm)) hne
        · exact h.one i j e e' h1 h2 hk

/-- what the row says of place j -/
def prI (b : List Int) (j : Nat) : Int := match lastK b (key3 b j) j with
  | none => -1
  | some i => (i : Int)

structure FOK (b : List Int) (E : List ((Int × Int × Int) × Int)) (P : List Int) (n : Nat) : Prop where
  len : P.length = n
  keys : ∀ e ∈ E, kyB e.1
  map : n + 2 ≤ b.length → KM b E n
  row : ∀ j, j < n → j + 3 ≤ b.length → P.getD j 0 = prI b j

theorem key_b {b : List Int} (hb : ∀ x ∈ b, 0 ≤ x ∧ x < 256) (i : Nat) : kyB (key3 b i) := by
  have : ∀ j, 0 ≤ b.getD j 0 ∧ b.getD j 0 < 256 := by
    intro j
    rcases Nat.lt_or_ge j b.length with h | h
    · rw [List.getD, List.getElem?_eq_getElem h]
      exact hb _ (List.getElem_mem h)
    · rw [List.getD, List.getElem?_eq_none h]
      decide
  exact ⟨this _, this _, this _⟩

end Go.Proofs.Ytkajimndclhgaaa

/- The finder's functions. Own work. -/
namespace Go.Proofs.Ytkajimndclhgaaa
open Go Go.Proofs
set_option linter.unusedVariables false
set_option linter.unusedSimpArgs false
attribute [local irreducible] apK cpK mkK br

/-- the finder at fb: its bytes, its map, its row -/
def finA (fb mb : Nat) (s p : Sl) (E : List ((Int × Int × Int) × Int)) (P : List Int) : As :=
  andA (blkA fb [.slice s.a s.len s.cap, .map (some mb), .slice p.a p.len p.cap]) (andA (mpA mb (kvl E)) (ownA 1 p (ivs .i64 P)))

section
variable {F0 : List Nat} {w0 w : World} {ps rest : List As} {xs : List Int} {fb mb : Nat} {s p : Sl} {E : List ((Int × Int × Int) × Int)} {P : List Int}

theorem fin_o (h : St F0 w0 w (finA fb mb s p E P :: ps)) : St F0 w0 w (blkA fb [.slice s.a s.len s.cap, .map (some mb), .slice p.a p.len p.cap] :: mpA mb (kvl E) :: ownA 1 p (ivs .i64 P) :: ps) := by
  unfold finA at h
  exact h.split.tail fun _ _ _ h => h.split
theorem fin_c (h : St F0 w0 w (blkA fb [.slice s.a s.len s.cap, .map (some mb), .slice p.a p.len p.cap] :: mpA mb (kvl E) :: ownA 1 p (ivs .i64 P) :: ps)) : St F0 w0 w (finA fb mb s p E P :: ps) := by
  unfold finA
  exact St.join (h.tail fun _ _ _ h => h.join)

theorem nz_ldA {a : Option Addr} {k : Nat} {K : Array Value → Prop} (h : rdO w a k K) (hk : k ≠ 0) : nz a fun a => ldA w a k K := by
  cases a with
  | none => exact absurd h.1 hk
  | some a => exact h

theorem take3 {i : Nat} (h : i + 3 ≤ xs.length) : (xs.drop i).take (i + 3 - i) = [(key3 xs i).1, (key3 xs i).2.1, (key3 xs i).2.2] := by
  rw [show i + 3 - i = 3 by omega]
  rw [List.drop_eq_getElem_cons (by omega), List.drop_eq_getElem_cons (by omega), List.drop_eq_getElem_cons (by omega)]
  show [xs[i], xs[i + 1], xs[i + 2]] = _
  simp [key3, List.getD, show i < xs.length by omega, show i + 1 < xs.length by omega, show i + 2 < xs.length by omega]

theorem lz_finder_key.c {i : Nat} {K : Ending → World → Prop} (h : St F0 w0 w ps) [PkB fb ps [.slice s.a s.len s.cap, .map (some mb), .slice p.a p.len p.cap] rest] [Rdb F0 w0 s ps 1 (u8s xs)] (hc : s.len ≤ s.cap) (hi : i + 3 ≤ xs.length)
    (hk : ∀ w', St F0 w0 w' ps → K (.returned (.agg ⟨kyL (key3 xs i)⟩)) w') : Calls Try.prog 156 ⟨[.pointer (some ⟨fb, 0, none⟩), .int .i64 (i : Int)]⟩ w K := by
  have hl := (h.rdb s).1
  rw [ivs_length] at hl
  refine ret_k (lz_finder_key.ok _ _ _ _ ?_)
  unfold lz_finder_key
  rw [show zc Try.prog 194 = ⟨[.int .u8 0, .int .u8 0, .int .u8 0]⟩ by kernel_rfl]
  refine h.new fun nb w h => ?_
  have h : St F0 w0 w (blkA nb [.int .u8 0, .int .u8 0, .int .u8 0] :: ps) := h
  refine nz_i (h.fL ?_)
  refine bd_i rfl (by show i ≤ s.len; omega) ?_
  refine lt_i ?_
  refine ⟨by show 3 ≤ s.len - i; omega, ?_⟩
  have hr := (h.cutR s i (i + 3) 0 (by omega) (by omega) hc (take3 hi)).rd h
  refine nz_ldA (hr.rdO (k := 3) rfl ⟨rfl, ?_⟩) (by decide)
  refine h.sA (l := [.int .u8 0, .int .u8 0, .int .u8 0]) (l' := kyL (key3 xs i)) rfl rfl (ivs_storable (l := [(key3 xs i).1, (key3 xs i).2.1, (key3 xs i).2.2])) fun w h => ?_
  refine h.lA rfl ?_
  exact hk w h.drop

theorem lz_finder_same.c {i k : Nat} {K : Ending → World → Prop} (h : St F0 w0 w ps) [PkB fb ps [.slice s.a s.len s.cap, .map (some mb), .slice p.a p.len p.cap] rest] [Rdb F0 w0 s ps 1 (u8s xs)] (hik : i < k) (hkl : k ≤ xs.length) (hlen : xs.length ≤ 1000000)
    (hk : ∀ w', St F0 w0 w' ps → K (.returned (.int .i64 (same xs i k : Int))) w') : Calls Try.prog 157 ⟨[.pointer (some ⟨fb, 0, none⟩), .int .i64 (i : Int), .int .i64 (k : Int)]⟩ w K := by
  have hl := (h.rdb s).1
  rw [ivs_length] at hl
  refine ret_k (lz_finder_same.ok _ _ _ _ _ ?_)
  unfold lz_finder_same lz_finder_same.j1
  refine loop1 (fun (m : Nat) (n' : Int) w' => n' = m ∧ m ≤ 258 ∧ sameN xs i k (258 - m) m = same xs i k ∧ St F0 w0 w' ps) (fun m => 258 - m) 0 ⟨rfl, by omega, rfl, h⟩ ?_
  clear h
  rintro m n' wL I μ ⟨rfl, hm, hs, h⟩ hin
  unfold lz_finder_same.b1
  refine h.drewK fun w h => ?_
  have done : sameN xs i k (258 - m) m = m → K (.returned (.int .i64 (m : Int))) w := fun e => by
    rw [e] at hs
    rw [← hs] at hk
    exact hk w h
  refine br_d (fun g => ?_) (fun g => ?_)
  · obtain ⟨f, hf⟩ : ∃ f, 258 - m = f + 1 := ⟨258 - m - 1, by omega⟩
    rw [hf, sameN] at hs
    rw [hf, sameN] at done
    refine lt_as (wrap_i64 (by omega) (by omega)) ?_
    refine nz_i (h.fL ?_)
    refine br_d (fun g1 => ?_) (fun g1 => ?_)
    · have g1 : (k : Int) + m < (s.len : Int) := g1
      refine nz_i (h.fL ?_)
      refine lt_as (wrap_i64 (by omega) (by omega)) ?_
      refine h.lx (s := s) (i + m) (by omega) (by omega) ?_
      refine nz_i (h.fL ?_)
      refine lt_as (wrap_i64 (by omega) (by omega)) ?_
      refine h.lx (s := s) (k + m) (by omega) (by omega) ?_
      refine br_b (fun g2 => ?_) (fun g2 => ?_)
      · have g2 : xs.getD (i + m) 0 = xs.getD (k + m) 0 := by simpa using g2
        rw [if_pos ⟨by omega, g2⟩] at hs
        refine lt_as (wrap_i64 (by omega) (by omega)) ?_
        exact ⟨⟨rfl, rfl, rfl⟩, hin (m + 1) _ _ ⟨by omega, by omega, by rw [show 258 - (m + 1) = f by omega]; exact hs, h⟩ (by omega)⟩
      · have g2 : ¬ xs.getD (i + m) 0 = xs.getD (k + m) 0 := by simpa using g2
        exact done (if_neg fun e => g2 e.2)
    · have g1 : ¬ (k : Int) + m < (s.len : Int) := g1
      exact done (if_neg fun e => by omega)
  · rw [show 258 - m = 0 by omega] at done
    exact done rfl

theorem lz_finder_best.c {a L : Nat} {K : Ending → World → Prop} (h : St F0 w0 w (finA fb mb s p E P :: ps)) [Rdb F0 w0 s ps 1 (u8s xs)] (hb : ∀ x ∈ xs, 0 ≤ x ∧ x < 256) (hc : s.len ≤ s.cap) (hlen : xs.length ≤ 1000000) (hF : FOK xs E P a) (ha : a ≤ xs.length) (hL : L ≤ 4096)
    (hk : ∀ w', St F0 w0 w' (finA fb mb s p E P :: ps) → K (.returned (.tuple ⟨[.int .i64 ((bestL xs a L).1 : Int), .int .i64 ((bestL xs a L).2 : Int)]⟩)) w') :
    Calls Try.prog 129 ⟨[.pointer (some ⟨fb, 0, none⟩), .int .i64 (a : Int), .int .i64 (L : Int)]⟩ w K := by
  have hl := (h.drop.rdb s).1
  rw [ivs_length] at hl
  have h := fin_o h
  refine ret_k (lz_finder_best.ok _ _ _ _ _ ?_)
  unfold lz_finder_best lz_finder_best.j1
  refine lt_as (wrap_i64 (by omega) (by omega)) ?_
  refine nz_i (h.fL ?_)
  have ex : ∀ (n d : Nat) (w : World), bestL xs a L = (n, d) → St F0 w0 w (blkA fb [.slice s.a s.len s.cap, .map (some mb), .slice p.a p.len p.cap] :: mpA mb (kvl E) :: ownA 1 p (ivs .i64 P) :: ps) → K (.returned (.tuple ⟨[.int .i64 (n : Int), .int .i64 (d : Int)]⟩)) w := by
    intro n d w e h
    rw [e] at hk
    exact hk w (fin_c h)
  clear hk
  refine br_d (fun g => ?_) (fun g => ?_)
  · have g : (a : Int) + 3 > (s.len : Int) := g
    exact ex 0 0 w (by unfold bestL; rw [if_pos (by omega)]) h
  have g : ¬ (a : Int) + 3 > (s.len : Int) := g
  have hM := hF.map (by omega)
  refine h.drewK fun w h => ?_
  have j2 : ∀ (w : World) (r20 : Int) (r21 : Bool), ((r21 = false ∧ lastK xs (key3 xs a) a = none) ∨ ∃ i : Nat, r20 = (i : Int) ∧ r21 = true ∧ lastK xs (key3 xs a) a = some i) →
      St F0 w0 w (blkA fb [.slice s.a s.len s.cap, .map (some mb), .slice p.a p.len p.cap] :: mpA mb (kvl E) :: ownA 1 p (ivs .i64 P) :: ps) → lz_finder_best.j2 (some ⟨fb, 0, none⟩) (a : Int) (L : Int) 0 0 r20 r21 (fun v w' => K (.returned v) w') w := by
    intro w r20 r21 hr h
    unfold lz_finder_best.j2
    rcases hr with ⟨rfl, e⟩ | ⟨i0, rfl, rfl, e⟩
    · refine loop4 (fun (u : Nat) (t2 t6 t7 t8 : Int) w' => t6 = 0 ∧ t7 = 0 ∧ St F0 w0 w' (blkA fb [.slice s.a s.len s.cap, .map (some mb), .slice p.a p.len p.cap] :: mpA mb (kvl E) :: ownA 1 p (ivs .i64 P) :: ps)) (fun _ => 0) 0 ⟨rfl, rfl, h⟩ ?_
      rintro u t2 t6 t7 t8 w I μ ⟨rfl, rfl, h⟩ hin
      unfold lz_finder_best.b1
      refine br_f1 ?_
      exact ex 0 0 w (by unfold bestL; rw [if_neg (by omega), e]) h
    · have eb : bestL xs a L = walkL xs a L i0 0 0 := by unfold bestL; rw [if_neg (by omega), e]
      have hi0 := (lastK_some e).1
      refine loop4 (fun (u : Nat × Nat × Nat × Nat) (t2 t6 t7 t8 : Int) w' => t2 = u.1 ∧ t6 = u.2.1 ∧ t7 = u.2.2.1 ∧ t8 = u.2.2.2 ∧ u.1 ≤ 4096 ∧ u.2.2.2 < a ∧ u.2.1 ≤ 258 ∧ walkL xs a u.1 u.2.2.2 u.2.1 u.2.2.1 = walkL xs a L i0 0 0 ∧ St F0 w0 w' (blkA fb [.slice s.a s.len s.cap, .map (some mb), .slice p.a p.len p.cap] :: mpA mb (kvl E) :: ownA 1 p (ivs .i64 P) :: ps)) (fun u => u.1) (L, 0, 0, i0) ⟨rfl, rfl, rfl, rfl, hL, hi0, by simp, rfl, h⟩ ?_
      clear h
      rintro ⟨f, n, d, i⟩ t2 t6 t7 t8 wL I μ ⟨rfl, rfl, rfl, rfl, hf, hia, hn, hw, h⟩ hin
      simp only at hf hia hn hw h hin ⊢
      unfold lz_finder_best.b1
      refine br_t1 ?_
      refine br_d (fun g1 => ?_) (fun g1 => ?_)
      · obtain ⟨f', rfl⟩ : ∃ f', f = f' + 1 := ⟨f - 1, by omega⟩
        rw [walkL] at hw
        refine lt_as (wrap_i64 (by omega) (by omega)) ?_
        refine br_d (fun g2 => ?_) (fun g2 => ?_)
        · rw [if_neg (by omega)] at hw
          simp only at hw
          unfold lz_finder_best.j4
          refine lz_finder_same.c (xs := xs) (i := i) (k := a) h hia ha hlen fun w h => ⟨_, rfl, ?_⟩
          have hsl := same_le xs i a
          have j6 : ∀ (n2 d2 : Nat), n2 = (if n < same xs i a then same xs i a else n) → d2 = (if n < same xs i a then a - i else d) → lz_finder_best.j6 (some ⟨fb, 0, none⟩) (a : Int) ((f' + 1 : Nat) : Int) (n2 : Int) (d2 : Int) (i : Int) true (fun v w' => K (.returned v) w') (fun d_0' i_1' t9' t2' t6' t7' t8' w' => (d_0' = some ⟨fb, 0, none⟩ ∧ i_1' = (a : Int) ∧ t9' = true) ∧ I t2' t6' t7' t8' w' ∧ μ t2' t6' t7' t8' w' < μ ((f' + 1 : Nat) : Int) (n : Int) (d : Int) (i : Int) wL) w := by
            intro n2 d2 e1 e2
            rw [← e1, ← e2] at hw
            have hn2 : n2 ≤ 258 := by rw [e1]; split <;> omega
            unfold lz_finder_best.j6
            refine nz_i (h.fL ?_)
            refine h.lx (s := p) i rfl (by rw [hF.len]; exact hia) ?_
            have hrow := hF.row i hia (by omega)
            unfold prI at hrow
            rw [hrow]
            cases hj : lastK xs (key3 xs i) i with
            | none =>
              rw [hj] at hw
              simp only at hw ⊢
              exact br_d (fun _ => ex n2 d2 w (eb.trans hw.symm) h) (fun g3 => absurd (by omega) g3)
            | some j =>
              rw [hj] at hw
              simp only at hw ⊢
              have hji := (lastK_some hj).1
              refine br_d (fun g3 => by omega) (fun g3 => ?_)
              refine br_b (fun g4 => ?_) (fun g4 => ?_)
              · have g4 : (n2 : Int) = 258 := by simpa using g4
                rw [if_pos (by omega)] at hw
                exact ex n2 d2 w (eb.trans hw.symm) h
              · have g4 : ¬ (n2 : Int) = 258 := by simpa using g4
                rw [if_neg (by omega)] at hw
                unfold lz_finder_best.j5
                refine lt_as (wrap_i64 (by omega) (by omega)) ?_
                exact ⟨⟨rfl, rfl, rfl⟩, hin (f', n2, d2, j) _ _ _ _ _ ⟨by simp only; omega, rfl, rfl, rfl, by simp only; omega, by simp only; omega, hn2, hw, h⟩ (by simp only; omega)⟩
          refine br_d (fun g3 => ?_) (fun g3 => ?_)
          · refine lt_as (show IntKind.i64.wrap ((a : Int) - i) = ((a - i : Nat) : Int) by rw [wrap_i64 (by omega) (by omega)]; omega) ?_
            exact j6 _ _ (by rw [if_pos (by omega)]) (by rw [if_pos (by omega)])
          · exact j6 _ _ (by rw [if_neg (by omega)]) (by rw [if_neg (by omega)])
        · rw [if_pos (by omega)] at hw
          exact ex n d wL (eb.trans hw.symm) h
      · have : f = 0 := by omega
        subst this
        exact ex n d wL (eb.trans hw.symm) h
  have lk : ∀ (w : World), St F0 w0 w (blkA fb [.slice s.a s.len s.cap, .map (some mb), .slice p.a p.len p.cap] :: mpA mb (kvl E) :: ownA 1 p (ivs .i64 P) :: ps) →
      ∃ r20 : Int, ∃ r21 : Bool, lkR Try.prog 161 (.map (some mb)) (.agg ⟨kyL (key3 xs a)⟩) true w (.tuple ⟨[.int .i64 r20, .bool r21]⟩) ∧ lz_finder_best.j2 (some ⟨fb, 0, none⟩) (a : Int) (L : Int) 0 0 r20 r21 (fun v w' => K (.returned v) w') w := by
    intro w h
    refine h.klook hF.keys (key_b hb a) (fun hn => j2 w 0 false (Or.inl ⟨rfl, ?_⟩) h) (fun e he hek => ?_)
    · cases hj : lastK xs (key3 xs a) a with
      | none => rfl
      | some i =>
        obtain ⟨j, e, h1, h2⟩ := hM.all _ _ hj
        exact absurd h2 (hn e (List.mem_of_getElem? h1))
    · obtain ⟨j, hj⟩ := List.mem_iff_getElem?.1 he
      obtain ⟨i, h1, h2⟩ := hM.val j e hj
      rw [hek] at h2
      exact j2 w _ true (Or.inr ⟨i, h1, rfl, h2⟩) h
  refine nz_i ⟨?_, ?_⟩
  · refine h.fM ?_
    exact lz_finder_key.c (xs := xs) (i := a) h hc (by omega) fun w h => ⟨_, rfl, lk w h⟩
  · refine lz_finder_key.c (xs := xs) (i := a) h hc (by omega) fun w h => ⟨_, rfl, ?_⟩
    exact h.fM (lk w h)

theorem lz_finder_add.c {a : Nat} {K : Ending → World → Prop} (h : St F0 w0 w (finA fb mb s p E P :: ps)) [Rdb F0 w0 s ps 1 (u8s xs)] (hb : ∀ x ∈ xs, 0 ≤ x ∧ x < 256) (hc : s.len ≤ s.cap) (hlen : xs.length ≤ 1000000) (hF : FOK xs E P a) (ha : a < xs.length)
    (hk : ∀ p' E' P' w', St F0 w0 w' (finA fb mb s p' E' P' :: ps) → FOK xs E' P' (a + 1) → K (.returned (.tuple ⟨[]⟩)) w') :
    Calls Try.prog 130 ⟨[.pointer (some ⟨fb, 0, none⟩), .int .i64 (a : Int)]⟩ w K := by
  have hl := (h.drop.rdb s).1
  rw [ivs_length] at hl
  have hPl := hF.len
  have h := fin_o h
  refine ret_k (lz_finder_add.ok _ _ _ _ ?_)
  unfold lz_finder_add
  refine nz_i (h.fL ?_)
  refine h.pushI (s := p) (k := .i64) (zs := P) (by omega) fun p2 w h => ?_
  refine nz_i (h.fst trivial fun w h => ?_)
  have h : St F0 w0 w (blkA fb [.slice s.a s.len s.cap, .map (some mb), .slice p2.a p2.len p2.cap] :: mpA mb (kvl E) :: ownA 1 p2 (ivs .i64 (P ++ [-1])) :: ps) := h.sub
  refine lt_as (wrap_i64 (by omega) (by omega)) ?_
  refine nz_i (h.fL ?_)
  have old : ∀ j, j < a → (P ++ [-1]).getD j 0 = P.getD j 0 := by
    intro j hj
    rw [List.getD, List.getElem?_append_left (by omega)]
    rfl
  refine br_d (fun g => ?_) (fun g => ?_)
  · have g : (a : Int) + 3 > (s.len : Int) := g
    refine hk p2 E (P ++ [-1]) w (fin_c h) ⟨by simp [hPl], hF.keys, fun hle => by omega, fun j hj hj3 => ?_⟩
    rw [old j (by omega)]
    exact hF.row j (by omega) hj3
  have g : ¬ (a : Int) + 3 > (s.len : Int) := g
  have hM := hF.map (by omega)
  unfold lz_finder_add.j1
  refine h.drewK fun w h => ?_
  have set : ∀ (P2 : List Int) (w : World), P2.length = a + 1 → (∀ j, j < a + 1 → j + 3 ≤ xs.length → P2.getD j 0 = prI xs j) → St F0 w0 w (blkA fb [.slice s.a s.len s.cap, .map (some mb), .slice p2.a p2.len p2.cap] :: mpA mb (kvl E) :: ownA 1 p2 (ivs .i64 P2) :: ps) →
      ∃ w7 : World, muR Try.prog 161 (.map (some mb)) (.agg ⟨kyL (key3 xs a)⟩) (.int .i64 (a : Int)) w w7 ∧ K (.returned (.tuple ⟨[]⟩)) w7 := by
    intro P2 w h1 h2 h
    refine h.kset hF.keys (key_b hb a) fun E' w h he => ?_
    refine hk p2 E' P2 w (fin_c h.sub) ⟨h1, ?_, fun hle => hM.next he, h2⟩
    rcases he with ⟨rfl, _⟩ | ⟨j, e, _, _, rfl⟩
    · intro e he
      rcases List.mem_append.1 he with he | he
      · exact hF.keys e he
      · have : e = (key3 xs a, (a : Int)) := by simpa using he
        subst this
        exact key_b hb a
    · intro e2 he
      rcases List.mem_or_eq_of_mem_set he with he | rfl
      · exact hF.keys e2 he
      · exact key_b hb a
  have j2 : ∀ (P2 : List Int) (w : World), P2.length = a + 1 → (∀ j, j < a + 1 → j + 3 ≤ xs.length → P2.getD j 0 = prI xs j) → St F0 w0 w (blkA fb [.slice s.a s.len s.cap, .map (some mb), .slice p2.a p2.len p2.cap] :: mpA mb (kvl E) :: ownA 1 p2 (ivs .i64 P2) :: ps) →
      lz_finder_add.j2 (some ⟨fb, 0, none⟩) (a : Int) (fun v w' => K (.returned v) w') w := by
    intro P2 w h1 h2 h
    unfold lz_finder_add.j2
    refine h.drewK fun w h => ?_
    refine nz_i ⟨?_, ?_⟩
    · refine h.fM ?_
      exact lz_finder_key.c (xs := xs) (i := a) h hc (by omega) fun w h => ⟨_, rfl, set P2 w h1 h2 h⟩
    · refine lz_finder_key.c (xs := xs) (i := a) h hc (by omega) fun w h => ⟨_, rfl, ?_⟩
      exact h.fM (set P2 w h1 h2 h)
  have j3 : ∀ (w : World) (r20 : Int) (r21 : Bool), ((r21 = false ∧ lastK xs (key3 xs a) a = none) ∨ ∃ i : Nat, r20 = (i : Int) ∧ r21 = true ∧ lastK xs (key3 xs a) a = some i) →
      St F0 w0 w (blkA fb [.slice s.a s.len s.cap, .map (some mb), .slice p2.a p2.len p2.cap] :: mpA mb (kvl E) :: ownA 1 p2 (ivs .i64 (P ++ [-1])) :: ps) → lz_finder_add.j3 (some ⟨fb, 0, none⟩) (a : Int) r20 r21 (fun v w' => K (.returned v) w') w := by
    intro w r20 r21 hr h
    unfold lz_finder_add.j3
    rcases hr with ⟨rfl, e⟩ | ⟨i, rfl, rfl, e⟩
    · refine br_f1 (j2 _ w (by simp [hPl]) (fun j hj hj3 => ?_) h)
      rcases Nat.lt_or_ge j a with h1 | h1
      · rw [old j h1]; exact hF.row j h1 hj3
      · have : j = a := by omega
        subst this
        unfold prI
        rw [e, List.getD, List.getElem?_append_right (by omega), hPl]
        simp
    · refine br_t1 (nz_i (h.fL ?_))
      refine h.sx (s := p2) a rfl (by simp [hPl]) fun w h => ?_
      refine j2 ((P ++ [-1]).set a (i : Int)) w (by simp [hPl]) (fun j hj hj3 => ?_) h.sub
      rcases Nat.lt_or_ge j a with h1 | h1
      · rw [List.getD, List.getElem?_set, if_neg (by omega)]
        have := old j h1
        rw [List.getD] at this
        rw [this]; exact hF.row j h1 hj3
      · have : j = a := by omega
        subst this
        unfold prI
        rw [e, List.getD, List.getElem?_set, if_pos rfl, if_pos (by simp [hPl])]
        rfl
  have lk : ∀ (w : World), St F0 w0 w (blkA fb [.slice s.a s.len s.cap, .map (some mb), .slice p2.a p2.len p2.cap] :: mpA mb (kvl E) :: ownA 1 p2 (ivs .i64 (P ++ [-1])) :: ps) →
      ∃ r20 : Int, ∃ r21 : Bool, lkR Try.prog 161 (.map (some mb)) (.agg ⟨kyL (key3 xs a)⟩) true w (.tuple ⟨[.int .i64 r20, .bool r21]⟩) ∧ lz_finder_add.j3 (some ⟨fb, 0, none⟩) (a : Int) r20 r21 (fun v w' => K (.returned v) w') w := by
    intro w h
    refine h.klook hF.keys (key_b hb a) (fun hn => j3 w 0 false (Or.inl ⟨rfl, ?_⟩) h) (fun e he hek => ?_)
    · cases hj : lastK xs (key3 xs a) a with
      | none => rfl
      | some i =>
        obtain ⟨j, e, h1, h2⟩ := hM.all _ _ hj
        exact absurd h2 (hn e (List.mem_of_getElem? h1))
    · obtain ⟨j, hj⟩ := List.mem_iff_getElem?.1 he
      obtain ⟨i, h1, h2⟩ := hM.val j e hj
      rw [hek] at h2
      exact j3 w _ true (Or.inr ⟨i, h1, rfl, h2⟩) h
  refine nz_i ⟨?_, ?_⟩
  · refine h.fM ?_
    exact lz_finder_key.c (xs := xs) (i := a) h hc (by omega) fun w h => ⟨_, rfl, lk w h⟩
  · refine lz_finder_key.c (xs := xs) (i := a) h hc (by omega) fun w h => ⟨_, rfl, ?_⟩
    exact h.fM (lk w h)

end

end Go.Proofs.Ytkajimndclhgaaa

/- Tokens put behind; what is found. Own work. -/
namespace Go.Proofs.Ytkajimndclhgaaa
open Go Go.Proofs
set_option linter.unusedVariables false
set_option linter.unusedSimpArgs false
attribute [local irreducible] apK cpK mkK br

/-- a type of tokens -/
class ElT (P : Program) (e : TypeId) : Prop where
  info : ∃ i, P.info? e = some i ∧ i.size = 3 ∧ i.bytes ≠ 0 ∧ i.bytes ≤ 48
  zc : (Go.Proofs.Ytkajimndclhgaaa.zc P e).size = 3
instance elt_tok : ElT Try.prog 78 := ⟨⟨Try.t78, by kernel_rfl, rfl, by decide, by decide⟩, by kernel_rfl⟩
instance elt_rtok : ElT Try.prog 158 := ⟨⟨Try.t158, by kernel_rfl, rfl, by decide, by decide⟩, by kernel_rfl⟩

theorem spl_tok (t : Tk) : spl [.int .u8 0, .int .i64 0, .int .i64 0] 0 ⟨tkC t⟩ = tkC t := by kernel_rfl

theorem tks_storable {L : List Tk} : ∀ v ∈ (⟨tks L⟩ : Array Value), storable v := by
  intro v hv
  have hv : v ∈ tks L := by simpa using hv
  induction L with
  | nil => simp [tri] at hv
  | cons t L ih =>
    have : tks (t :: L) = tkC t ++ tks L := by simp [tri, tkC]
    rw [this] at hv
    rcases List.mem_append.1 hv with hv | hv
    · exact tkC_storable t v (by simpa using hv)
    · exact ih (by simpa using hv) hv

theorem tks_take (L : List Tk) : ∀ i, (tks L).take (i * 3) = tks (L.take i) := by
  induction L with
  | nil => intro i; simp [tri]
  | cons t L ih =>
    intro i
    have e : ∀ L : List Tk, tks (t :: L) = tkC t ++ tks L := by intro L; simp [tri, tkC]
    cases i with
    | zero => simp [tri]
    | succ i =>
      rw [List.take_succ_cons, e, e, ← ih i, show (i + 1) * 3 = 3 + i * 3 by omega]
      rw [List.take_append, List.take_of_length_le (by simp [tkC]), show 3 + i * 3 - (tkC t).length = i * 3 by simp [tkC]]

section
variable {F0 : List Nat} {w0 w : World} {ps rest : List As} {P : Program} {e : TypeId} {s : Sl} {L : List Tk} {xs : List Int}

theorem St.pushT {t : Tk} {K : Sl → World → Prop} [he : ElT P e] (h : St F0 w0 w ps) [PkO s ps 3 (tks L) rest] (hlen : L.length ≤ 1000000000)
    (hk : ∀ s' w', s'.len = s.len + 1 → St F0 w0 w' (ownA 3 s' (tks (L ++ [t])) :: rest) → K s' w') :
    lt (⟨World.heapSize w, 0, none⟩ : Addr) fun a => lt (World.alloc w (.cells ⟨spl [.int .u8 0, .int .i64 0, .int .i64 0] 0 ⟨tkC t⟩⟩ e)) fun w1 => rdO w1 (some a) (1 * 3) fun c => apK P e w1 s.a s.len s.cap 1 c K := by
  rw [spl_tok]
  refine (h.toO s).new fun nb w h => ?_
  have h : St F0 w0 w (blkA nb (tkC t) :: ownA 3 s (tks L) :: rest) := h
  refine h.rdB rfl ?_
  have h := h.drop
  have hl := h.len
  rw [tri_length] at hl
  obtain ⟨i, h1, h2, h3, h4⟩ := he.info
  refine St.append (i := i) (sz := 3) (m := 1) h1 h2 (by decide) he.zc h3 ?_ h rfl (tkC_storable t) fun s' w' h hl' => hk s' w' hl' (by rw [tks_snoc]; exact h)
  refine Nat.le_trans (Nat.mul_le_mul_left _ h4) ?_
  omega

theorem St.ownB3 {nb n : Nat} {l : List Value} (h : St F0 w0 w (blkA nb l :: ps)) (hn : l.length = n * 3) : St F0 w0 w (ownA 3 ⟨some ⟨nb, 0, none⟩, n, n⟩ l :: ps) := by
  refine h.mp ?_
  rintro F ⟨hb, rfl⟩
  exact Or.inr ⟨nb, [], rfl, by simpa using hb, hn, by simpa using hn, rfl⟩

/-- append(row, row...) -/
theorem St.appT {K : Sl → World → Prop} {s2 : Sl} {L2 : List Tk} [he : ElT P e] (h : St F0 w0 w ps) [PkO s ps 3 (tks L2) rest] [Rdb F0 w0 s2 ps 3 (tks L)] (hlen : L.length + L2.length ≤ 1000000000)
    (hk : ∀ s' w', s'.len = s.len + L.length → St F0 w0 w' (ownA 3 s' (tks (L2 ++ L)) :: rest) → K s' w') :
    rdO w s2.a (s2.len * 3) fun c => apK P e w s.a s.len s.cap s2.len c K := by
  have hr := h.rdb s2
  have hl := hr.1
  refine hr.rdO hl.symm ?_
  rw [tri_length] at hl
  have h := h.toO s
  have hl2 := h.len
  rw [tri_length] at hl2
  obtain ⟨i, h1, h2, h3, h4⟩ := he.info
  refine St.append (i := i) (sz := 3) (m := s2.len) h1 h2 (by decide) he.zc h3 ?_ h (by show (tks L).length = _; rw [tri_length]; omega) tks_storable fun s' w' h hl' => hk s' w' (by omega) (by rw [show tks (L2 ++ L) = tks L2 ++ tks L by simp [tri]]; exact h)
  refine Nat.le_trans (Nat.mul_le_mul_left _ h4) ?_
  omega

theorem slices_Clip_tok.c {cs : List Value} {K : Ending → World → Prop} (h : St F0 w0 w (rdA 3 s cs :: ps)) (hc : s.len ≤ s.cap)
    (hk : ∀ s' : Sl, s'.len = s.len → s'.cap = s.len → St F0 w0 w (rdA 3 s' cs :: ps) → K (.returned (.slice s'.a s'.len s'.cap)) w) : Calls Try.prog 131 ⟨[.slice s.a s.len s.cap]⟩ w K := by
  refine ret_k (slices_Clip_lz_Token.ok _ _ _ ?_)
  unfold slices_Clip_lz_Token
  refine ⟨⟨by omega, by omega⟩, ⟨by omega, by omega⟩, lt_i ?_⟩
  refine hk ⟨_, _, _⟩ (by simp) (by simp) (h.recap ?_ (by simp))
  show cutA s.a _ 0 3 = s.a
  unfold cutA
  split
  · rfl
  · cases s.a with
    | none => rfl
    | some a => simp [Addr.add]

theorem findL_step {b : List Int} {looks at' : Nat} (h : at' < b.length) : findL b looks (b.length - at') at' = (stepL b looks at').1 :: findL b looks (b.length - (at' + (stepL b looks at').2)) (at' + (stepL b looks at').2) := by
  obtain ⟨f, hf⟩ : ∃ f, b.length - at' = f + 1 := ⟨b.length - at' - 1, by omega⟩
  rw [hf, findL, if_pos h]
  congr 1
  have := stepL_pos b looks at'
  exact findL_fuel _ _ _ _ _ (by omega) (by omega)

theorem findL_makes (b : List Int) (looks : Nat) : ∀ f at', b.length - at' ≤ f → at' ≤ b.length → Makes b at' (findL b looks f at') b.length := by
  intro f
  induction f with
  | zero =>
    intro at' h1 h2
    have : at' = b.length := by omega
    subst this; exact Makes.nil _
  | succ f ih =>
    intro at' h1 h2
    rw [findL]
    split
    · rename_i hlt
      have hp := stepL_pos b looks at'
      have hle := stepL_le b looks at' hlt
      have hr := ih (at' + (stepL b looks at').2) (by omega) hle
      revert hr
      unfold stepL
      simp only
      split
      · intro hr; exact Makes.lit hlt hr
      · rename_i h3
        intro hr
        rcases bestL_good b at' looks with h4 | ⟨h4, h5, h6, h7, h8, h9⟩
        · omega
        · exact Makes.copy (by omega) h4 h5 h6 h7 h8 h9 hr
    · have : at' = b.length := by omega
      subst this; exact Makes.nil _

def looksOf (e : Int) : Nat := (if 4096 < e then 4096 else e).toNat
theorem looksOf_le (e : Int) : looksOf e ≤ 4096 := by unfold looksOf; split <;> omega

theorem looks_eq (e : Int) : (if (4096 : Int) < (if (0 : Int) > e then 0 else e) then 4096 else (if (0 : Int) > e then 0 else e)) = (looksOf e : Int) := by
  unfold looksOf
  by_cases h1 : (0 : Int) > e
  · rw [if_pos h1, if_neg (by decide), if_neg (by omega)]; omega
  · rw [if_neg h1]
    by_cases h2 : 4096 < e
    · rw [if_pos h2]; rfl
    · rw [if_neg h2]; omega

theorem lz_Find.c {e : Int} {K : Ending → World → Prop} (h : St F0 w0 w ps) [Rdb F0 w0 s ps 1 (u8s xs)] (hb : ∀ x ∈ xs, 0 ≤ x ∧ x < 256) (hc : s.len ≤ s.cap) (hlen : xs.length ≤ 262144)
    (hk : ∀ s' w', s'.len = (findL xs (looksOf e) xs.length 0).length → s'.cap = s'.len → St F0 w0 w' (rdA 3 s' (tks (findL xs (looksOf e) xs.length 0)) :: ps) → K (.returned (.slice s'.a s'.len s'.cap)) w') :
    Calls Try.prog 72 ⟨[.slice s.a s.len s.cap, .int .i64 e]⟩ w K := by
  have hl := (h.rdb s).1
  rw [ivs_length] at hl
  refine ret_k (lz_Find.ok _ _ _ _ ?_)
  unfold lz_Find lz_Find.j1
  refine br_d (fun g => by omega) (fun _ => ?_)
  refine h.mmake fun mb w h => ?_
  refine h.new fun fb w h => ?_
  have h := (h.nil 1).at2.at2
  have h : St F0 w0 w (finA fb mb s ⟨none, 0, 0⟩ [] [] :: ps) := fin_c h
  unfold lz_Find.j2
  refine lt_i (lt_as (looks_eq e) ?_)
  have hlk := looksOf_le e
  generalize looksOf e = looks at hk hlk ⊢
  unfold lz_Find.j3 lz_Find.j5
  refine loop2 (fun (u : Nat × List Tk × Sl × List ((Int × Int × Int) × Int) × List Int) (o : Sl) (at' : Int) w' => at' = u.1 ∧ u.1 ≤ xs.length ∧ u.2.1.length ≤ u.1 ∧ u.2.1 ++ findL xs looks (xs.length - u.1) u.1 = findL xs looks xs.length 0 ∧ FOK xs u.2.2.2.1 u.2.2.2.2 u.1 ∧ St F0 w0 w' (ownA 3 o (tks u.2.1) :: finA fb mb s u.2.2.1 u.2.2.2.1 u.2.2.2.2 :: ps)) (fun u => xs.length - u.1) (0, [], ⟨none, 0, 0⟩, [], [])
    ⟨rfl, by simp, by simp, by simp, ⟨rfl, by simp, fun _ => KM.nil xs, fun j hj _ => absurd hj (Nat.not_lt_zero j)⟩, h.nil 3⟩ ?_
  clear h
  rintro ⟨a, L, p, E, P⟩ o at' wL I μ ⟨rfl, ha, hLa, hf, hF, h⟩ hin
  simp only at ha hLa hf hF h hin ⊢
  unfold lz_Find.b1
  refine br_d (fun g => ?_) (fun g => ?_)
  · have hlt : a < xs.length := by omega
    rw [findL_step hlt] at hf
    unfold lz_Find.j6
    have hle := stepL_le xs looks a hlt
    have hp := stepL_pos xs looks a
    refine lz_finder_best.c (xs := xs) h.at1 hb hc (by omega) hF ha hlk fun w h => ⟨_, _, rfl, ?_⟩
    unfold lz_Find.j7
    refine h.tokN (t := (0, ((bestL xs a looks).1 : Int), ((bestL xs a looks).2 : Int))) fun nb w h => ?_
    have fin : ∀ (t : Tk) (n : Nat) (w : World), (t, n) = stepL xs looks a → St F0 w0 w (blkA nb (tkC t) :: finA fb mb s p E P :: ownA 3 o (tks L) :: ps) → lz_Find.j8 s (some ⟨fb, 0, none⟩) (looks : Int) o (a : Int) (n : Int) ⟨nb, 0, none⟩ (fun v w' => K (.returned v) w') (fun b' f' l' o' at'' w' => (b' = s ∧ f' = some ⟨fb, 0, none⟩ ∧ l' = (looks : Int)) ∧ I o' at'' w' ∧ μ o' at'' w' < μ o (a : Int) wL) w := by
      intro t n w e h
      rw [← e] at hf hle hp
      simp only at hf hle hp
      unfold lz_Find.j8
      refine h.lA rfl ⟨rfl, ?_⟩
      refine h.pushT (s := o) (L := L) (t := t) (by omega) fun o2 w hol h => ?_
      have h : St F0 w0 w (ownA 3 o2 (tks (L ++ [t])) :: finA fb mb s p E P :: ps) := h.sub
      unfold lz_Find.j9
      refine loop2 (fun (v : Nat × Sl × List ((Int × Int × Int) × Int) × List Int) (at' c' : Int) w' => c' = v.1 ∧ at' = ((a + v.1 : Nat) : Int) ∧ v.1 ≤ n ∧ FOK xs v.2.2.1 v.2.2.2 (a + v.1) ∧ St F0 w0 w' (ownA 3 o2 (tks (L ++ [t])) :: finA fb mb s v.2.1 v.2.2.1 v.2.2.2 :: ps)) (fun v => n - v.1) (0, p, E, P) ⟨rfl, rfl, by simp, hF, h⟩ ?_
      clear h
      rintro ⟨c, p2, E2, P2⟩ at2 c' w2 I2 μ2 ⟨rfl, rfl, hcn, hF2, h⟩ hin2
      simp only at hcn hF2 h hin2 ⊢
      unfold lz_Find.b2
      refine br_d (fun g2 => ?_) (fun g2 => ?_)
      · refine lz_finder_add.c (xs := xs) h.at1 hb hc (by omega) hF2 (by omega) fun p3 E3 P3 w h hF3 => ⟨rfl, ?_⟩
        refine lt_as (wrap_i64 (by omega) (by omega)) ?_
        refine lt_as (wrap_i64 (by omega) (by omega)) ?_
        exact ⟨⟨rfl, rfl, rfl, rfl, rfl⟩, hin2 (c + 1, p3, E3, P3) _ _ _ ⟨by simp, by simp only; omega, by simp only; omega, hF3, h.at1⟩ (by simp only; omega)⟩
      · have : c = n := by omega
        subst this
        exact ⟨⟨rfl, rfl, rfl⟩, hin (a + c, L ++ [t], p2, E2, P2) _ _ _ ⟨rfl, hle, by simp; omega, by simpa using hf, hF2, h⟩ (by simp only; omega)⟩
    refine br_d (fun g2 => ?_) (fun g2 => ?_)
    · refine h.lx (s := s) a rfl hlt ?_
      refine ⟨rfl, ?_⟩
      refine h.sA (l := tkC (0, ((bestL xs a looks).1 : Int), ((bestL xs a looks).2 : Int))) (l' := tkC (xs.getD a 0, 0, 0)) rfl rfl (tkC_storable _) fun w h => ?_
      exact fin (xs.getD a 0, 0, 0) 1 w (by unfold stepL; simp only; rw [if_pos (by omega)]) h
    · exact fin _ _ w (by unfold stepL; simp only; rw [if_neg (by omega)]) h
  · have : a = xs.length := by omega
    subst this
    rw [Nat.sub_self, show findL xs looks 0 xs.length = [] from rfl, List.append_nil] at hf
    unfold lz_Find.j4
    have hol := h.len
    rw [tri_length] at hol
    refine slices_Clip_tok.c h.ro (h.cap (by decide)) fun s2 h1 h2 h => ⟨s2, rfl, ?_⟩
    rw [← hf] at hk
    exact hk s2 wL (by omega) (by omega) (h.tail fun _ _ _ h => h.drop)

theorem trovelaw8_of.c {K : Ending → World → Prop} (h : St F0 w0 w ps) [Rdb F0 w0 s ps 3 (tks L)] (hL : L.length ≤ 1000000)
    (hk : ∀ s' w', s'.len = L.length → St F0 w0 w' (ownA 3 s' (tks L) :: ps) → K (.returned (.slice s'.a s'.len s'.cap)) w') : Calls Try.prog 65 ⟨[.slice s.a s.len s.cap]⟩ w K := by
  have hl := (h.rdb s).1
  rw [tri_length] at hl
  refine ret_k (trovelaw8_of.ok _ _ _ ?_)
  unfold trovelaw8_of trovelaw8_of.j1 trovelaw8_of.j3
  refine loop2 (fun (i : Nat) (o : Sl) (i' : Int) w' => i' = i ∧ i ≤ L.length ∧ o.len = i ∧ St F0 w0 w' (ownA 3 o (tks (L.take i)) :: ps)) (fun i => L.length - i) 0 ⟨rfl, by omega, rfl, h.nil 3⟩ ?_
  clear h
  rintro i o i' wL I μ ⟨rfl, hi, ho, h⟩ hin
  unfold trovelaw8_of.b1
  refine br_d (fun g => ?_) (fun g => ?_)
  · have hil : i < L.length := by omega
    refine h.ltok (s := s) i rfl hil ⟨rfl, ?_⟩
    refine h.pushT (s := o) (t := L[i]) (by rw [List.length_take]; omega) fun o2 w h2 h => ?_
    rw [← List.take_succ_eq_append_getElem hil] at h
    refine lt_as (wrap_i64 (by omega) (by omega)) ?_
    exact ⟨rfl, hin (i + 1) _ _ _ ⟨by omega, by omega, by omega, h⟩ (by omega)⟩
  · have : i = L.length := by omega
    subst this
    rw [List.take_length] at h
    unfold trovelaw8_of.j2
    exact hk o wL ho h

/-! ### bytes -/

theorem tkCopy_b (d : Int) : ∀ k (out : List Int), (∀ x ∈ out, 0 ≤ x ∧ x < 256) → ∀ x ∈ tkCopy d k out, 0 ≤ x ∧ x < 256 := by
  intro k
  induction k with
  | zero => intro out h; exact h
  | succ k ih =>
    intro out h
    rw [tkCopy]
    refine ih _ fun x hx => ?_
    rcases List.mem_append.1 hx with hx | hx
    · exact h x hx
    · have : x = out.getD (out.length - d.toNat) 0 := by simpa using hx
      subst this
      rcases Nat.lt_or_ge (out.length - d.toNat) out.length with h1 | h1
      · rw [List.getD, List.getElem?_eq_getElem h1]
        exact h _ (List.getElem_mem h1)
      · rw [List.getD, List.getElem?_eq_none h1]
        decide

theorem tkAll_b (most : Int) : ∀ (L : List Tk) (out : List Int), (∀ t ∈ L, 0 ≤ t.1 ∧ t.1 < 256) → (∀ x ∈ out, 0 ≤ x ∧ x < 256) → ∀ x ∈ (tkAll most out L).1, 0 ≤ x ∧ x < 256 := by
  intro L
  induction L with
  | nil => intro out _ h; exact h
  | cons t L ih =>
    intro out hL h
    rw [tkAll]
    split
    · intro x hx; simp at hx
    · refine ih _ (fun t ht => hL t (List.mem_cons_of_mem _ ht)) ?_
      unfold tkExp
      split
      · intro x hx
        rcases List.mem_append.1 hx with hx | hx
        · exact h x hx
        · have : x = t.1 := by simpa using hx
          subst this; exact hL t (by simp)
      · exact tkCopy_b _ _ _ h

theorem tkExpand_b {most : Int} (hL : ∀ t ∈ L, 0 ≤ t.1 ∧ t.1 < 256) : ∀ x ∈ (tkExpand L most).1, 0 ≤ x ∧ x < 256 := by
  unfold tkExpand
  split
  · intro x hx; simp at hx
  · split
    · intro x hx; simp at hx
    · exact tkAll_b _ _ _ hL (by simp)

end

end Go.Proofs.Ytkajimndclhgaaa

