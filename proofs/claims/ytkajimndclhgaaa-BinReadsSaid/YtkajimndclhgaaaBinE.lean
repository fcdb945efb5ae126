/- Numbers as bytes: the statements on rows of numbers and on any reads. Own work. -/
import Derived.Test.YtkajimndclhgaaaBinD
namespace Go.Proofs.Ytkajimndclhgaaa
open Go Go.Proofs
set_option linter.unusedVariables false
set_option linter.unusedSimpArgs false
attribute [local irreducible] apK cpK mkK

/-! ### rows of numbers -/

def rw3 (i : Nat) : Nat := if i % 3 = 0 then 2 else if i % 3 = 1 then 4 else 8
def rowsB (zs : List Int) : Nat → List Int
  | 0 => []
  | i + 1 => rowsB zs i ++ beJ (rw3 i) (rw3 i) (zs.getD i 0)

theorem rw3_le (i : Nat) : rw3 i ≤ 8 := by unfold rw3; split <;> (try split) <;> omega
theorem rowsB_le (zs : List Int) : ∀ n, (rowsB zs n).length ≤ 8 * n
  | 0 => by simp [rowsB]
  | n + 1 => by
    have := rowsB_le zs n
    have := rw3_le n
    rw [rowsB, List.length_append, beJ_length]; omega
theorem rowsB_ok (zs : List Int) : ∀ n, allB (rowsB zs n)
  | 0 => fun x h => by simp [rowsB] at h
  | n + 1 => fun x h => by
    rw [rowsB] at h
    rcases List.mem_append.1 h with h | h
    · exact rowsB_ok zs n x h
    · exact beJ_ok _ _ _ x h
theorem rowsB_split (zs : List Int) (i : Nat) : ∀ n, i < n → ∃ r, rowsB zs n = rowsB zs i ++ (beJ (rw3 i) (rw3 i) (zs.getD i 0) ++ r) := by
  intro n
  induction n with
  | zero => intro h; omega
  | succ n ih =>
    intro h
    by_cases e : i = n
    · subst e; exact ⟨[], by rw [rowsB, List.append_nil]⟩
    · obtain ⟨r, hr⟩ := ih (by omega)
      exact ⟨r ++ beJ (rw3 n) (rw3 n) (zs.getD n 0), by rw [rowsB, hr]; simp⟩

theorem tkS_at (a r : List Int) (k : Nat) (z : Int) : tkS (a ++ (beJ k k z ++ r)) a.length 0 k = (beJ k k z, a.length + k, 0) := by
  unfold tkS
  rw [if_pos ⟨rfl, by omega, by simp [beJ_length]; omega⟩, Int.toNat_natCast, List.drop_left' rfl]
  rw [List.take_left' (beJ_length k k z)]

theorem nuS_row (zs : List Int) {i n : Nat} (h : i < n) : nuS (rowsB zs n) (rowsB zs i).length 0 (rw3 i) =
    if 9223372036854775807 < zs.getD i 0 % 2 ^ (8 * rw3 i) then (0, (rowsB zs i).length, 5) else (zs.getD i 0 % 2 ^ (8 * rw3 i), (rowsB zs (i + 1)).length, 0) := by
  obtain ⟨r, hr⟩ := rowsB_split zs i n h
  unfold nuS
  rw [hr, tkS_at, be_beJ']
  have e : (rowsB zs (i + 1)).length = (rowsB zs i).length + rw3 i := by rw [rowsB, List.length_append, beJ_length]
  rw [e]

theorem and16 (x : Int) : andV .i64 x 65535 = x % 65536 := by
  have h := andV_mod .i64 x (t := 16) (by decide)
  rw [show (2 : Int) ^ 16 - 1 = 65535 by decide, show (2 : Int) ^ 16 = 65536 by decide] at h
  exact h
theorem and32 (x : Int) : andV .i64 x 4294967295 = x % 4294967296 := by
  have h := andV_mod .i64 x (t := 32) (by decide)
  rw [show (2 : Int) ^ 32 - 1 = 4294967295 by decide, show (2 : Int) ^ 32 = 4294967296 by decide] at h
  exact h

theorem trovelaw1_BinRows.law (s : Sl) (zs : List Int) (W : World) (hr : Rd W 1 s (ivs .i64 zs)) (hz : ∀ n ∈ zs, (Lit.int .i64 n).wf = true) :
    Calls Try.prog 15 ⟨[.slice s.a s.len s.cap]⟩ W fun e w' => e = .returned (.bool true) ∧ Mod [] W w' := by
  refine ret_k (trovelaw1_BinRows.ok _ _ _ ?_)
  unfold trovelaw1_BinRows
  have hl := hr.1
  rw [ivs_length] at hl
  haveI : ∀ ps, Rdb [] W s ps 1 (ivs .i64 zs) := fun ps => Rdb.start hr
  refine trovelaw1_known.c (St.start0 (w := W)) fun w h => ⟨_, rfl, br_f1 ?_⟩
  unfold trovelaw1_BinRows.j1
  refine br_d (fun _ => ⟨rfl, h.mod⟩) fun g1 => ?_
  unfold trovelaw1_BinRows.j2 trovelaw1_BinRows.j11
  have h : St [] W w [rdA 1 ⟨none, 0, 0⟩ (u8s [])] := (h.nil 1).ro
  refine loop2 (fun (i : Nat) (o : Sl) (i' : Int) w' => i' = i ∧ i ≤ zs.length ∧ St [] W w' [rdA 1 o (u8s (rowsB zs i))]) (fun i => zs.length - i) 0 ⟨rfl, by omega, h⟩ ?_
  clear h
  rintro i o i' w I μ ⟨rfl, hi, h⟩ hin
  have hrl := rowsB_le zs i
  unfold trovelaw1_BinRows.b2
  refine br_d (fun g => ?_) (fun g => ?_)
  · have hiz : i < zs.length := by omega
    have step : rowsB zs (i + 1) = rowsB zs i ++ beJ (rw3 i) (rw3 i) (zs.getD i 0) := rfl
    refine ⟨by decide, lt_as (tmod_nn (by omega)) ?_⟩
    refine br_b (fun g2 => ?_) (fun g2 => ?_)
    · have e : rw3 i = 2 := by unfold rw3; rw [if_pos (by have : (i : Int) % 3 = 0 := by simpa using g2
                                                          omega)]
      rw [e] at step
      refine h.lx i rfl hiz ?_
      refine bin_Put16.d h (by omega) fun s2 w _ _ h => ⟨s2, rfl, ?_⟩
      refine lt_as (wrap_i64 (by omega) (by omega)) ?_
      rw [← step] at h
      exact ⟨rfl, hin (i + 1) _ _ _ ⟨by omega, by omega, h.sub⟩ (by omega)⟩
    have g2 : ¬ (i : Int) % 3 = 0 := by simpa using g2
    refine br_b (fun g3 => ?_) (fun g3 => ?_)
    · have e : rw3 i = 4 := by unfold rw3; rw [if_neg (by omega), if_pos (by have : (i : Int) % 3 = 1 := by simpa using g3
                                                                             omega)]
      rw [e] at step
      refine h.lx i rfl hiz ?_
      refine bin_Put32.d h (by omega) fun s2 w _ _ h => ⟨s2, rfl, ?_⟩
      refine lt_as (wrap_i64 (by omega) (by omega)) ?_
      rw [← step] at h
      exact ⟨rfl, hin (i + 1) _ _ _ ⟨by omega, by omega, h.sub⟩ (by omega)⟩
    · have g3 : ¬ (i : Int) % 3 = 1 := by simpa using g3
      have e : rw3 i = 8 := by unfold rw3; rw [if_neg (by omega), if_neg (by omega)]
      rw [e] at step
      refine h.lx i rfl hiz ?_
      refine bin_Put64.d h (by omega) fun s2 w _ _ h => ⟨s2, rfl, ?_⟩
      refine lt_as (wrap_i64 (by omega) (by omega)) ?_
      rw [← step] at h
      exact ⟨rfl, hin (i + 1) _ _ _ ⟨by omega, by omega, h.sub⟩ (by omega)⟩
  have : i = zs.length := by omega
  subst this
  clear hin
  have hbl := h.rd.1
  rw [ivs_length] at hbl
  have hok := rowsB_ok zs zs.length
  unfold trovelaw1_BinRows.j3
  refine bin_New.c (s := o) h hok (by omega) fun rb w h => ⟨_, rfl, ?_⟩
  have h : St [] W w [brA rb (rowsB zs zs.length, 0, 0)] := h.sub
  unfold trovelaw1_BinRows.j4 trovelaw1_BinRows.j6
  refine loop2 (fun (i : Nat) (a i' : Int) w' => i' = i ∧ i ≤ zs.length ∧ a = (rowsB zs i).length ∧ St [] W w' [brA rb (rowsB zs zs.length, (rowsB zs i).length, 0)]) (fun i => zs.length - i) 0 ⟨rfl, by omega, rfl, h⟩ ?_
  clear h
  rintro i a i' w I μ ⟨rfl, hi, rfl, h⟩ hin
  have hri := rowsB_le zs i
  unfold trovelaw1_BinRows.b1
  refine br_d (fun g => ?_) (fun g => ?_)
  · have hiz : i < zs.length := by omega
    have hnu := nuS_row zs hiz
    have step : rowsB zs (i + 1) = rowsB zs i ++ beJ (rw3 i) (rw3 i) (zs.getD i 0) := rfl
    have hsl : (rowsB zs (i + 1)).length = (rowsB zs i).length + rw3 i := by rw [step, List.length_append, beJ_length]
    have hfit : (rowsB zs (i + 1)).length ≤ (rowsB zs zs.length).length := by
      obtain ⟨r, hr⟩ := rowsB_split zs i zs.length hiz
      rw [hr, hsl]; simp [beJ_length]
    have fin : ∀ (v : Int) w', St [] W w' [brA rb (rowsB zs zs.length, (rowsB zs (i + 1)).length, 0)] → trovelaw1_BinRows.j10 s o (some ⟨rb, 0, none⟩) (((rowsB zs (i + 1)).length : Nat) : Int) i v v (fun v w' => Ending.returned v = .returned (.bool true) ∧ Mod [] W w') (fun d_0' t3' t5' t6' t7' w' => (d_0' = s ∧ t3' = o ∧ t5' = some ⟨rb, 0, none⟩) ∧ I t6' t7' w' ∧ μ t6' t7' w' < μ (((rowsB zs i).length : Nat) : Int) i w) w' := by
      intro v w h
      unfold trovelaw1_BinRows.j10
      refine br_no (by simp) ?_
      refine bin_Reader_At.c h ⟨_, rfl, br_no (by simp) ?_⟩
      refine bin_Reader_Left.c h fun w h => ⟨_, rfl, ?_⟩
      refine lt_as (wrap_i64 (by omega) (by omega)) ?_
      refine br_no (by simp; omega) ?_
      unfold trovelaw1_BinRows.j8
      refine lt_as (wrap_i64 (by omega) (by omega)) ?_
      exact ⟨⟨rfl, rfl, rfl⟩, hin (i + 1) _ _ _ ⟨by omega, by omega, rfl, h⟩ (by omega)⟩
    unfold trovelaw1_BinRows.j7 trovelaw1_BinRows.j9
    refine h.lx i rfl hiz ?_
    have hzi := wf_i64 (hz (zs.getD i 0) (by simp [List.getD, List.getElem?_eq_getElem hiz]))
    refine ⟨by decide, lt_as (tmod_nn (by omega)) ?_⟩
    refine br_b (fun g2 => ?_) (fun g2 => ?_)
    · have e : rw3 i = 2 := by unfold rw3; rw [if_pos (by have : (i : Int) % 3 = 0 := by simpa using g2
                                                          omega)]
      rw [e] at hnu hsl
      rw [show (2 : Int) ^ (8 * 2) = 65536 by decide, if_neg (by omega)] at hnu
      refine bin_Reader_U16.c h hok fun w h => ⟨_, rfl, ?_⟩
      rw [hnu] at h ⊢
      refine lt_as (and16 _) ?_
      refine lt_as (show IntKind.i64.wrap (((rowsB zs i).length : Int) + 2) = (((rowsB zs (i + 1)).length : Nat) : Int) by rw [wrap_i64 (by omega) (by omega)]; omega) ?_
      exact fin _ w h
    have g2 : ¬ (i : Int) % 3 = 0 := by simpa using g2
    refine br_b (fun g3 => ?_) (fun g3 => ?_)
    · have e : rw3 i = 4 := by unfold rw3; rw [if_neg (by omega), if_pos (by have : (i : Int) % 3 = 1 := by simpa using g3
                                                                             omega)]
      rw [e] at hnu hsl
      rw [show (2 : Int) ^ (8 * 4) = 4294967296 by decide, if_neg (by omega)] at hnu
      refine bin_Reader_U32.c h hok fun w h => ⟨_, rfl, ?_⟩
      rw [hnu] at h ⊢
      refine lt_as (and32 _) ?_
      refine lt_as (show IntKind.i64.wrap (((rowsB zs i).length : Int) + 4) = (((rowsB zs (i + 1)).length : Nat) : Int) by rw [wrap_i64 (by omega) (by omega)]; omega) ?_
      exact fin _ w h
    · have g3 : ¬ (i : Int) % 3 = 1 := by simpa using g3
      have e : rw3 i = 8 := by unfold rw3; rw [if_neg (by omega), if_neg (by omega)]
      rw [e] at hnu hsl
      rw [show (2 : Int) ^ (8 * 8) = 18446744073709551616 by decide] at hnu
      refine bin_Reader_U64.c h hok fun w h => ⟨_, rfl, ?_⟩
      refine br_d (fun g4 => ?_) (fun g4 => ?_)
      · rw [if_pos (by omega)] at hnu
        rw [hnu] at h ⊢
        refine bin_Reader_Err.c h ⟨_, rfl, br_is rfl (br_is rfl ?_)⟩
        refine bin_Reader_Left.c h fun w h => ⟨_, rfl, ?_⟩
        exact ⟨rfl, h.mod⟩
      · rw [if_neg (by omega), Int.emod_eq_of_lt (by omega) (by omega)] at hnu
        rw [hnu] at h ⊢
        refine lt_as (show IntKind.i64.wrap (((rowsB zs i).length : Int) + 8) = (((rowsB zs (i + 1)).length : Nat) : Int) by rw [wrap_i64 (by omega) (by omega)]; omega) ?_
        exact fin _ w h
  · have : i = zs.length := by omega
    subst this
    unfold trovelaw1_BinRows.j5
    have e : nuS (rowsB zs zs.length) (rowsB zs zs.length).length 0 1 = (0, (rowsB zs zs.length).length, 3) := by
      have et : tkS (rowsB zs zs.length) (rowsB zs zs.length).length 0 (1 : Nat) = ([], (rowsB zs zs.length).length, 3) := by
        unfold tkS
        rw [if_neg (by omega), if_pos rfl]
      unfold nuS
      rw [et]
      rfl
    refine bin_Reader_U8.c h hok fun w h => ⟨_, rfl, ?_⟩
    rw [e] at h ⊢
    refine br_is rfl ?_
    refine bin_Reader_Err.c h ⟨_, rfl, ?_⟩
    exact ⟨rfl, h.mod⟩

/-! ### any reads -/

section
variable {F0 : List Nat} {w0 w : World} {ps rest : List As}

/-- a place in a row of pairs -/
theorem Rd.ixD {k0 k1 : IntKind} {s : Sl} {L : List (Int × Int)} {i : Int} {K : Addr → Prop} (h : Rd w 2 s (duo k0 k1 L)) (j : Nat) (hi : i = j) (hj : j < L.length)
    (hk : ∀ a, (∀ w', Rd w' 2 s (duo k0 k1 L) → w'.cell? (a.add 0) = some (.int k0 L[j].1) ∧ w'.cell? (a.add 1) = some (.int k1 L[j].2)) → K a) : ixS s.a s.len i 2 K := by
  subst hi
  have hl := h.1
  rw [duo_length] at hl
  refine h.ix (by decide) (by omega) (by omega) fun a ha => ?_
  rw [show ((j : Int)).toNat * 2 = j * 2 by omega]
  refine hk _ fun w' h' => ?_
  obtain ⟨g1, g2⟩ := duo_get k0 k1 L j hj
  rw [add_add, add_add, h'.cell ha (by rw [duo_length]; omega), h'.cell ha (by rw [duo_length]; omega)]
  exact ⟨g1, g2⟩

theorem brR_f1 {rb at' : Nat} {err : Int} {s : Sl} {K : Int → Prop} (h : St F0 w0 w ps) [PkF brR rb ps (s, at', err) rest] (hk : K at') : ldI .i64 w (Addr.add ⟨rb, 0, none⟩ 1) K := (brR_o (rb := rb) h).fI hk
theorem brR_f2 {rb at' : Nat} {err : Int} {s : Sl} {K : Int → Prop} (h : St F0 w0 w ps) [PkF brR rb ps (s, at', err) rest] (hk : K err) : ldI .i64 w (Addr.add ⟨rb, 0, none⟩ 2) K := (brR_o (rb := rb) h).fI hk

theorem nuS_le {xs : List Int} (hx : allB xs) {at' : Nat} {err : Int} (ha : at' ≤ xs.length) (n : Nat) : (nuS xs at' err n).2.1 ≤ xs.length := by
  unfold nuS
  split
  · exact ha
  · exact (tkS_ok hx at' err n).2.2.2 ha

end

theorem trovelaw1_BinReads.law (s s1 : Sl) (xs : List Int) (L : List (Int × Int)) (W : World) (hr : Rd W 1 s (u8s xs)) (hr1 : Rd W 2 s1 (duo .i64 .i64 L)) (hx : ∀ n ∈ xs, (Lit.int .u8 n).wf = true) (hcap : s.len ≤ s.cap) (hL : ∀ y ∈ L, (Lit.int .i64 y.1).wf = true ∧ (Lit.int .i64 y.2).wf = true) :
    Calls Try.prog 16 ⟨[.slice s.a s.len s.cap, .slice s1.a s1.len s1.cap]⟩ W fun e w' => e = .returned (.bool true) ∧ Mod [] W w' := by
  refine ret_k (trovelaw1_BinReads.ok _ _ _ _ ?_)
  unfold trovelaw1_BinReads trovelaw1_BinReads.j1
  have hb : allB xs := fun x h => wf_u8 (hx x h)
  have hl := hr.1
  rw [ivs_length] at hl
  have hl1 := hr1.1
  rw [duo_length] at hl1
  haveI : ∀ ps, Rdb [] W s ps 1 (u8s xs) := fun ps => Rdb.start hr
  have rd1 : ∀ {w' ps}, St [] W w' ps → Rd w' 2 s1 (duo .i64 .i64 L) := fun h => hr1.keep h.mod (by simp)
  refine trovelaw1_known.c (St.start0 (w := W)) fun w h => ⟨_, rfl, br_f1 ?_⟩
  refine br_d (fun _ => ⟨rfl, h.mod⟩) fun g1 => ?_
  refine br_d (fun _ => ⟨rfl, h.mod⟩) fun g2 => ?_
  unfold trovelaw1_BinReads.j2
  refine bin_New.c (s := s) h hb (by omega) fun ra w h => ⟨_, rfl, ?_⟩
  refine h.new fun rb w h => ?_
  have h : St [] W w [brR rb (s, 0, 0), brA ra (xs, 0, 0)] := h
  unfold trovelaw1_BinReads.j3 trovelaw1_BinReads.j5
  refine loop1 (fun (a : Nat × Nat × Int) (i' : Int) w' => i' = a.1 ∧ a.1 ≤ L.length ∧ a.2.1 ≤ xs.length ∧ St [] W w' [brR rb (s, a.2), brA ra (xs, a.2)]) (fun a => L.length - a.1) (0, 0, 0) ⟨rfl, by omega, by simp, h⟩ ?_
  clear h
  rintro ⟨i, at', err⟩ i' wL I μ ⟨rfl, hi, hat, h⟩ hin
  simp only at hi hat h hin ⊢
  unfold trovelaw1_BinReads.b1
  refine br_d (fun g => ?_) (fun g => ?_)
  · have hiL : i < L.length := by omega
    have next : ∀ (x : Nat × Int) (v : Int) (w' : World), x.1 ≤ xs.length → St [] W w' [brR rb (s, x), brA ra (xs, x)] → trovelaw1_BinReads.j9 s1 (some ⟨ra, 0, none⟩) (some ⟨rb, 0, none⟩) i v v (fun v w' => Ending.returned v = .returned (.bool true) ∧ Mod [] W w')
        (fun i_1' t5' t6' t7' w' => (i_1' = s1 ∧ t5' = some ⟨ra, 0, none⟩ ∧ t6' = some ⟨rb, 0, none⟩) ∧ I t7' w' ∧ μ t7' w' < μ (i : Int) wL) w' := by
      rintro ⟨at2, err2⟩ v w' hat2 h
      unfold trovelaw1_BinReads.j9
      refine h.drewK fun w h => ?_
      refine br_no (by simp) ?_
      refine bin_Reader_Left.c h fun w h => ⟨_, rfl, ?_⟩
      refine troveref1_Reader_Left.c h (by omega) (by omega) fun w h => ⟨_, rfl, ?_⟩
      refine br_no (by simp; split <;> omega) (nz_i ?_)
      have fin : trovelaw1_BinReads.j7 s1 (some ⟨ra, 0, none⟩) (some ⟨rb, 0, none⟩) i (fun v w' => Ending.returned v = .returned (.bool true) ∧ Mod [] W w')
        (fun i_1' t5' t6' t7' w' => (i_1' = s1 ∧ t5' = some ⟨ra, 0, none⟩ ∧ t6' = some ⟨rb, 0, none⟩) ∧ I t7' w' ∧ μ t7' w' < μ (i : Int) wL) w := by
        unfold trovelaw1_BinReads.j7
        refine lt_as (wrap_i64 (by omega) (by omega)) ?_
        exact ⟨⟨rfl, rfl, rfl⟩, hin (i + 1, at2, err2) _ _ ⟨by simp, by simp only; omega, hat2, h.sub⟩ (by simp only; omega)⟩
      repeat' first
        | exact fin
        | (refine bin_Reader_At.c h ⟨_, rfl, ?_⟩)
        | (refine brR_f1 h ?_)
        | (refine bin_Reader_Err.c h ⟨_, rfl, ?_⟩)
        | (refine brR_f2 h ?_)
        | (refine br_no (by simp) ?_)
        | (refine nz_i ?_)
        | refine ⟨?_, ?_⟩
    unfold trovelaw1_BinReads.j6 trovelaw1_BinReads.j8
    refine (rd1 h).ixD i rfl hiL fun a ha => ?_
    refine ldI_c (ha wL (rd1 h)).1 ?_
    refine br_b (fun _ => ?_) (fun _ => ?_)
    · refine bin_Reader_U8.c h hb fun w h => ⟨_, rfl, ?_⟩
      refine troveref1_Reader_Number.c (n := 1) (xs := xs) hb (by decide) h hat (by omega) hcap fun w h => ⟨_, rfl, ?_⟩
      exact next (nuS xs at' err 1).2 _ _ (nuS_le hb hat 1) h.sub
    refine br_b (fun _ => ?_) (fun _ => ?_)
    · refine bin_Reader_U16.c h hb fun w h => ⟨_, rfl, ?_⟩
      refine troveref1_Reader_Number.c (n := 2) (xs := xs) hb (by decide) h hat (by omega) hcap fun w h => ⟨_, rfl, ?_⟩
      exact next (nuS xs at' err 2).2 _ _ (nuS_le hb hat 2) h.sub
    refine br_b (fun _ => ?_) (fun _ => ?_)
    · refine bin_Reader_U32.c h hb fun w h => ⟨_, rfl, ?_⟩
      refine troveref1_Reader_Number.c (n := 4) (xs := xs) hb (by decide) h hat (by omega) hcap fun w h => ⟨_, rfl, ?_⟩
      exact next (nuS xs at' err 4).2 _ _ (nuS_le hb hat 4) h.sub
    refine br_b (fun _ => ?_) (fun _ => ?_)
    · refine bin_Reader_U64.c h hb fun w h => ⟨_, rfl, ?_⟩
      refine troveref1_Reader_Number.c (n := 8) (xs := xs) hb (by decide) h hat (by omega) hcap fun w h => ⟨_, rfl, ?_⟩
      exact next (nuS xs at' err 8).2 _ _ (nuS_le hb hat 8) h.sub
    refine h.drewK fun w h => ?_
    refine (rd1 h).ixD i rfl hiL fun a1 ha1 => ?_
    refine ldI_c (ha1 w (rd1 h)).2 ?_
    refine (rd1 h).ixD i rfl hiL fun a2 ha2 => ?_
    have hp := (tkS_ok hb at' err L[i].2).1
    have hq := (tkS_ok hb at' err L[i].2).2.2.2 hat
    have hs5 : xs.length ≤ 1099511627776 := by omega
    repeat' first
      | (refine bin_Reader_Bytes.c (by assumption) fun s w h => ⟨s, rfl, ?_⟩)
      | (refine troveref1_Reader_Bytes.c (xs := xs) (by assumption) hat hs5 hcap fun s w h => ⟨s, rfl, ?_⟩)
      | (refine St.bt (by assumption) hp ?_)
      | (refine ldI_c (ha2 _ (rd1 (by assumption))).2 ?_)
      | (refine br_no (eqbytes _) ?_)
      | (refine next _ _ _ hq (St.sub (by assumption)))
      | refine ⟨?_, ?_⟩
  · exact ⟨rfl, h.mod⟩

end Go.Proofs.Ytkajimndclhgaaa
