/- The finder's functions. Own work. -/
import Derived.Test.YtkajimndclhgaaaLzC
namespace Go.Proofs.Ytkajimndclhgaaa
open Go Go.Proofs
set_option linter.unusedVariables false
set_option linter.unusedSimpArgs false
attribute [local irreducible] apK cpK mkK br

/-- the finder at fb: its bytes, its map, its row -/
def finA (fb mb : Nat) (s p : Sl) (E : List ((Int × Int × Int) × Int)) (P : List Int) : As :=
  andA (blkA fb [.slice s.a s.len s.cap, .map (some mb), .slice p.a p.len p.cap]) (andA (mpA mb (kvl E)) (ownA 1 p (ivs .i64 P)))

section
variable {F0 : List Nat} {w0 w : World} {ps rest : List As} {xs : List Int} {fb mb : Nat} {s p : Sl} {E : List ((Int × Int × Int) × Int)} {P : List Int}

theorem fin_o (h : St F0 w0 w (finA fb mb s p E P :: ps)) : St F0 w0 w (blkA fb [.slice s.a s.len s.cap, .map (some mb), .slice p.a p.len p.cap] :: mpA mb (kvl E) :: ownA 1 p (ivs .i64 P) :: ps) := by
  unfold finA at h
  exact h.split.tail fun _ _ _ h => h.split
theorem fin_c (h : St F0 w0 w (blkA fb [.slice s.a s.len s.cap, .map (some mb), .slice p.a p.len p.cap] :: mpA mb (kvl E) :: ownA 1 p (ivs .i64 P) :: ps)) : St F0 w0 w (finA fb mb s p E P :: ps) := by
  unfold finA
  exact St.join (h.tail fun _ _ _ h => h.join)

theorem nz_ldA {a : Option Addr} {k : Nat} {K : Array Value → Prop} (h : rdO w a k K) (hk : k ≠ 0) : nz a fun a => ldA w a k K := by
  cases a with
  | none => exact absurd h.1 hk
  | some a => exact h

theorem take3 {i : Nat} (h : i + 3 ≤ xs.length) : (xs.drop i).take (i + 3 - i) = [(key3 xs i).1, (key3 xs i).2.1, (key3 xs i).2.2] := by
  rw [show i + 3 - i = 3 by omega]
  rw [List.drop_eq_getElem_cons (by omega), List.drop_eq_getElem_cons (by omega), List.drop_eq_getElem_cons (by omega)]
  show [xs[i], xs[i + 1], xs[i + 2]] = _
  simp [key3, List.getD, show i < xs.length by omega, show i + 1 < xs.length by omega, show i + 2 < xs.length by omega]

theorem lz_finder_key.c {i : Nat} {K : Ending → World → Prop} (h : St F0 w0 w ps) [PkB fb ps [.slice s.a s.len s.cap, .map (some mb), .slice p.a p.len p.cap] rest] [Rdb F0 w0 s ps 1 (u8s xs)] (hc : s.len ≤ s.cap) (hi : i + 3 ≤ xs.length)
    (hk : ∀ w', St F0 w0 w' ps → K (.returned (.agg ⟨kyL (key3 xs i)⟩)) w') : Calls Try.prog 156 ⟨[.pointer (some ⟨fb, 0, none⟩), .int .i64 (i : Int)]⟩ w K := by
  have hl := (h.rdb s).1
  rw [ivs_length] at hl
  refine ret_k (lz_finder_key.ok _ _ _ _ ?_)
  unfold lz_finder_key
  rw [show zc Try.prog 194 = ⟨[.int .u8 0, .int .u8 0, .int .u8 0]⟩ by kernel_rfl]
  refine h.new fun nb w h => ?_
  have h : St F0 w0 w (blkA nb [.int .u8 0, .int .u8 0, .int .u8 0] :: ps) := h
  refine nz_i (h.fL ?_)
  refine bd_i rfl (by show i ≤ s.len; omega) ?_
  refine lt_i ?_
  refine ⟨by show 3 ≤ s.len - i; omega, ?_⟩
  have hr := (h.cutR s i (i + 3) 0 (by omega) (by omega) hc (take3 hi)).rd h
  refine nz_ldA (hr.rdO (k := 3) rfl ⟨rfl, ?_⟩) (by decide)
  refine h.sA (l := [.int .u8 0, .int .u8 0, .int .u8 0]) (l' := kyL (key3 xs i)) rfl rfl (ivs_storable (l := [(key3 xs i).1, (key3 xs i).2.1, (key3 xs i).2.2])) fun w h => ?_
  refine h.lA rfl ?_
  exact hk w h.drop

theorem lz_finder_same.c {i k : Nat} {K : Ending → World → Prop} (h : St F0 w0 w ps) [PkB fb ps [.slice s.a s.len s.cap, .map (some mb), .slice p.a p.len p.cap] rest] [Rdb F0 w0 s ps 1 (u8s xs)] (hik : i < k) (hkl : k ≤ xs.length) (hlen : xs.length ≤ 1000000)
    (hk : ∀ w', St F0 w0 w' ps → K (.returned (.int .i64 (same xs i k : Int))) w') : Calls Try.prog 157 ⟨[.pointer (some ⟨fb, 0, none⟩), .int .i64 (i : Int), .int .i64 (k : Int)]⟩ w K := by
  have hl := (h.rdb s).1
  rw [ivs_length] at hl
  refine ret_k (lz_finder_same.ok _ _ _ _ _ ?_)
  unfold lz_finder_same lz_finder_same.j1
  refine loop1 (fun (m : Nat) (n' : Int) w' => n' = m ∧ m ≤ 258 ∧ sameN xs i k (258 - m) m = same xs i k ∧ St F0 w0 w' ps) (fun m => 258 - m) 0 ⟨rfl, by omega, rfl, h⟩ ?_
  clear h
  rintro m n' wL I μ ⟨rfl, hm, hs, h⟩ hin
  unfold lz_finder_same.b1
  refine h.drewK fun w h => ?_
  have done : sameN xs i k (258 - m) m = m → K (.returned (.int .i64 (m : Int))) w := fun e => by
    rw [e] at hs
    rw [← hs] at hk
    exact hk w h
  refine br_d (fun g => ?_) (fun g => ?_)
  · obtain ⟨f, hf⟩ : ∃ f, 258 - m = f + 1 := ⟨258 - m - 1, by omega⟩
    rw [hf, sameN] at hs
    rw [hf, sameN] at done
    refine lt_as (wrap_i64 (by omega) (by omega)) ?_
    refine nz_i (h.fL ?_)
    refine br_d (fun g1 => ?_) (fun g1 => ?_)
    · have g1 : (k : Int) + m < (s.len : Int) := g1
      refine nz_i (h.fL ?_)
      refine lt_as (wrap_i64 (by omega) (by omega)) ?_
      refine h.lx (s := s) (i + m) (by omega) (by omega) ?_
      refine nz_i (h.fL ?_)
      refine lt_as (wrap_i64 (by omega) (by omega)) ?_
      refine h.lx (s := s) (k + m) (by omega) (by omega) ?_
      refine br_b (fun g2 => ?_) (fun g2 => ?_)
      · have g2 : xs.getD (i + m) 0 = xs.getD (k + m) 0 := by simpa using g2
        rw [if_pos ⟨by omega, g2⟩] at hs
        refine lt_as (wrap_i64 (by omega) (by omega)) ?_
        exact ⟨⟨rfl, rfl, rfl⟩, hin (m + 1) _ _ ⟨by omega, by omega, by rw [show 258 - (m + 1) = f by omega]; exact hs, h⟩ (by omega)⟩
      · have g2 : ¬ xs.getD (i + m) 0 = xs.getD (k + m) 0 := by simpa using g2
        exact done (if_neg fun e => g2 e.2)
    · have g1 : ¬ (k : Int) + m < (s.len : Int) := g1
      exact done (if_neg fun e => by omega)
  · rw [show 258 - m = 0 by omega] at done
    exact done rfl

theorem lz_finder_best.c {a L : Nat} {K : Ending → World → Prop} (h : St F0 w0 w (finA fb mb s p E P :: ps)) [Rdb F0 w0 s ps 1 (u8s xs)] (hb : ∀ x ∈ xs, 0 ≤ x ∧ x < 256) (hc : s.len ≤ s.cap) (hlen : xs.length ≤ 1000000) (hF : FOK xs E P a) (ha : a ≤ xs.length) (hL : L ≤ 4096)
    (hk : ∀ w', St F0 w0 w' (finA fb mb s p E P :: ps) → K (.returned (.tuple ⟨[.int .i64 ((bestL xs a L).1 : Int), .int .i64 ((bestL xs a L).2 : Int)]⟩)) w') :
    Calls Try.prog 129 ⟨[.pointer (some ⟨fb, 0, none⟩), .int .i64 (a : Int), .int .i64 (L : Int)]⟩ w K := by
  have hl := (h.drop.rdb s).1
  rw [ivs_length] at hl
  have h := fin_o h
  refine ret_k (lz_finder_best.ok _ _ _ _ _ ?_)
  unfold lz_finder_best lz_finder_best.j1
  refine lt_as (wrap_i64 (by omega) (by omega)) ?_
  refine nz_i (h.fL ?_)
  have ex : ∀ (n d : Nat) (w : World), bestL xs a L = (n, d) → St F0 w0 w (blkA fb [.slice s.a s.len s.cap, .map (some mb), .slice p.a p.len p.cap] :: mpA mb (kvl E) :: ownA 1 p (ivs .i64 P) :: ps) → K (.returned (.tuple ⟨[.int .i64 (n : Int), .int .i64 (d : Int)]⟩)) w := by
    intro n d w e h
    rw [e] at hk
    exact hk w (fin_c h)
  clear hk
  refine br_d (fun g => ?_) (fun g => ?_)
  · have g : (a : Int) + 3 > (s.len : Int) := g
    exact ex 0 0 w (by unfold bestL; rw [if_pos (by omega)]) h
  have g : ¬ (a : Int) + 3 > (s.len : Int) := g
  have hM := hF.map (by omega)
  refine h.drewK fun w h => ?_
  have j2 : ∀ (w : World) (r20 : Int) (r21 : Bool), ((r21 = false ∧ lastK xs (key3 xs a) a = none) ∨ ∃ i : Nat, r20 = (i : Int) ∧ r21 = true ∧ lastK xs (key3 xs a) a = some i) →
      St F0 w0 w (blkA fb [.slice s.a s.len s.cap, .map (some mb), .slice p.a p.len p.cap] :: mpA mb (kvl E) :: ownA 1 p (ivs .i64 P) :: ps) → lz_finder_best.j2 (some ⟨fb, 0, none⟩) (a : Int) (L : Int) 0 0 r20 r21 (fun v w' => K (.returned v) w') w := by
    intro w r20 r21 hr h
    unfold lz_finder_best.j2
    rcases hr with ⟨rfl, e⟩ | ⟨i0, rfl, rfl, e⟩
    · refine loop4 (fun (u : Nat) (t2 t6 t7 t8 : Int) w' => t6 = 0 ∧ t7 = 0 ∧ St F0 w0 w' (blkA fb [.slice s.a s.len s.cap, .map (some mb), .slice p.a p.len p.cap] :: mpA mb (kvl E) :: ownA 1 p (ivs .i64 P) :: ps)) (fun _ => 0) 0 ⟨rfl, rfl, h⟩ ?_
      rintro u t2 t6 t7 t8 w I μ ⟨rfl, rfl, h⟩ hin
      unfold lz_finder_best.b1
      refine br_f1 ?_
      exact ex 0 0 w (by unfold bestL; rw [if_neg (by omega), e]) h
    · have eb : bestL xs a L = walkL xs a L i0 0 0 := by unfold bestL; rw [if_neg (by omega), e]
      have hi0 := (lastK_some e).1
      refine loop4 (fun (u : Nat × Nat × Nat × Nat) (t2 t6 t7 t8 : Int) w' => t2 = u.1 ∧ t6 = u.2.1 ∧ t7 = u.2.2.1 ∧ t8 = u.2.2.2 ∧ u.1 ≤ 4096 ∧ u.2.2.2 < a ∧ u.2.1 ≤ 258 ∧ walkL xs a u.1 u.2.2.2 u.2.1 u.2.2.1 = walkL xs a L i0 0 0 ∧ St F0 w0 w' (blkA fb [.slice s.a s.len s.cap, .map (some mb), .slice p.a p.len p.cap] :: mpA mb (kvl E) :: ownA 1 p (ivs .i64 P) :: ps)) (fun u => u.1) (L, 0, 0, i0) ⟨rfl, rfl, rfl, rfl, hL, hi0, by simp, rfl, h⟩ ?_
      clear h
      rintro ⟨f, n, d, i⟩ t2 t6 t7 t8 wL I μ ⟨rfl, rfl, rfl, rfl, hf, hia, hn, hw, h⟩ hin
      simp only at hf hia hn hw h hin ⊢
      unfold lz_finder_best.b1
      refine br_t1 ?_
      refine br_d (fun g1 => ?_) (fun g1 => ?_)
      · obtain ⟨f', rfl⟩ : ∃ f', f = f' + 1 := ⟨f - 1, by omega⟩
        rw [walkL] at hw
        refine lt_as (wrap_i64 (by omega) (by omega)) ?_
        refine br_d (fun g2 => ?_) (fun g2 => ?_)
        · rw [if_neg (by omega)] at hw
          simp only at hw
          unfold lz_finder_best.j4
          refine lz_finder_same.c (xs := xs) (i := i) (k := a) h hia ha hlen fun w h => ⟨_, rfl, ?_⟩
          have hsl := same_le xs i a
          have j6 : ∀ (n2 d2 : Nat), n2 = (if n < same xs i a then same xs i a else n) → d2 = (if n < same xs i a then a - i else d) → lz_finder_best.j6 (some ⟨fb, 0, none⟩) (a : Int) ((f' + 1 : Nat) : Int) (n2 : Int) (d2 : Int) (i : Int) true (fun v w' => K (.returned v) w') (fun d_0' i_1' t9' t2' t6' t7' t8' w' => (d_0' = some ⟨fb, 0, none⟩ ∧ i_1' = (a : Int) ∧ t9' = true) ∧ I t2' t6' t7' t8' w' ∧ μ t2' t6' t7' t8' w' < μ ((f' + 1 : Nat) : Int) (n : Int) (d : Int) (i : Int) wL) w := by
            intro n2 d2 e1 e2
            rw [← e1, ← e2] at hw
            have hn2 : n2 ≤ 258 := by rw [e1]; split <;> omega
            unfold lz_finder_best.j6
            refine nz_i (h.fL ?_)
            refine h.lx (s := p) i rfl (by rw [hF.len]; exact hia) ?_
            have hrow := hF.row i hia (by omega)
            unfold prI at hrow
            rw [hrow]
            cases hj : lastK xs (key3 xs i) i with
            | none =>
              rw [hj] at hw
              simp only at hw ⊢
              exact br_d (fun _ => ex n2 d2 w (eb.trans hw.symm) h) (fun g3 => absurd (by omega) g3)
            | some j =>
              rw [hj] at hw
              simp only at hw ⊢
              have hji := (lastK_some hj).1
              refine br_d (fun g3 => by omega) (fun g3 => ?_)
              refine br_b (fun g4 => ?_) (fun g4 => ?_)
              · have g4 : (n2 : Int) = 258 := by simpa using g4
                rw [if_pos (by omega)] at hw
                exact ex n2 d2 w (eb.trans hw.symm) h
              · have g4 : ¬ (n2 : Int) = 258 := by simpa using g4
                rw [if_neg (by omega)] at hw
                unfold lz_finder_best.j5
                refine lt_as (wrap_i64 (by omega) (by omega)) ?_
                exact ⟨⟨rfl, rfl, rfl⟩, hin (f', n2, d2, j) _ _ _ _ _ ⟨by simp only; omega, rfl, rfl, rfl, by simp only; omega, by simp only; omega, hn2, hw, h⟩ (by simp only; omega)⟩
          refine br_d (fun g3 => ?_) (fun g3 => ?_)
          · refine lt_as (show IntKind.i64.wrap ((a : Int) - i) = ((a - i : Nat) : Int) by rw [wrap_i64 (by omega) (by omega)]; omega) ?_
            exact j6 _ _ (by rw [if_pos (by omega)]) (by rw [if_pos (by omega)])
          · exact j6 _ _ (by rw [if_neg (by omega)]) (by rw [if_neg (by omega)])
        · rw [if_pos (by omega)] at hw
          exact ex n d wL (eb.trans hw.symm) h
      · have : f = 0 := by omega
        subst this
        exact ex n d wL (eb.trans hw.symm) h
  have lk : ∀ (w : World), St F0 w0 w (blkA fb [.slice s.a s.len s.cap, .map (some mb), .slice p.a p.len p.cap] :: mpA mb (kvl E) :: ownA 1 p (ivs .i64 P) :: ps) →
      ∃ r20 : Int, ∃ r21 : Bool, lkR Try.prog 161 (.map (some mb)) (.agg ⟨kyL (key3 xs a)⟩) true w (.tuple ⟨[.int .i64 r20, .bool r21]⟩) ∧ lz_finder_best.j2 (some ⟨fb, 0, none⟩) (a : Int) (L : Int) 0 0 r20 r21 (fun v w' => K (.returned v) w') w := by
    intro w h
    refine h.klook hF.keys (key_b hb a) (fun hn => j2 w 0 false (Or.inl ⟨rfl, ?_⟩) h) (fun e he hek => ?_)
    · cases hj : lastK xs (key3 xs a) a with
      | none => rfl
      | some i =>
        obtain ⟨j, e, h1, h2⟩ := hM.all _ _ hj
        exact absurd h2 (hn e (List.mem_of_getElem? h1))
    · obtain ⟨j, hj⟩ := List.mem_iff_getElem?.1 he
      obtain ⟨i, h1, h2⟩ := hM.val j e hj
      rw [hek] at h2
      exact j2 w _ true (Or.inr ⟨i, h1, rfl, h2⟩) h
  refine nz_i ⟨?_, ?_⟩
  · refine h.fM ?_
    exact lz_finder_key.c (xs := xs) (i := a) h hc (by omega) fun w h => ⟨_, rfl, lk w h⟩
  · refine lz_finder_key.c (xs := xs) (i := a) h hc (by omega) fun w h => ⟨_, rfl, ?_⟩
    exact h.fM (lk w h)

theorem lz_finder_add.c {a : Nat} {K : Ending → World → Prop} (h : St F0 w0 w (finA fb mb s p E P :: ps)) [Rdb F0 w0 s ps 1 (u8s xs)] (hb : ∀ x ∈ xs, 0 ≤ x ∧ x < 256) (hc : s.len ≤ s.cap) (hlen : xs.length ≤ 1000000) (hF : FOK xs E P a) (ha : a < xs.length)
    (hk : ∀ p' E' P' w', St F0 w0 w' (finA fb mb s p' E' P' :: ps) → FOK xs E' P' (a + 1) → K (.returned (.tuple ⟨[]⟩)) w') :
    Calls Try.prog 130 ⟨[.pointer (some ⟨fb, 0, none⟩), .int .i64 (a : Int)]⟩ w K := by
  have hl := (h.drop.rdb s).1
  rw [ivs_length] at hl
  have hPl := hF.len
  have h := fin_o h
  refine ret_k (lz_finder_add.ok _ _ _ _ ?_)
  unfold lz_finder_add
  refine nz_i (h.fL ?_)
  refine h.pushI (s := p) (k := .i64) (zs := P) (by omega) fun p2 w h => ?_
  refine nz_i (h.fst trivial fun w h => ?_)
  have h : St F0 w0 w (blkA fb [.slice s.a s.len s.cap, .map (some mb), .slice p2.a p2.len p2.cap] :: mpA mb (kvl E) :: ownA 1 p2 (ivs .i64 (P ++ [-1])) :: ps) := h.sub
  refine lt_as (wrap_i64 (by omega) (by omega)) ?_
  refine nz_i (h.fL ?_)
  have old : ∀ j, j < a → (P ++ [-1]).getD j 0 = P.getD j 0 := by
    intro j hj
    rw [List.getD, List.getElem?_append_left (by omega)]
    rfl
  refine br_d (fun g => ?_) (fun g => ?_)
  · have g : (a : Int) + 3 > (s.len : Int) := g
    refine hk p2 E (P ++ [-1]) w (fin_c h) ⟨by simp [hPl], hF.keys, fun hle => by omega, fun j hj hj3 => ?_⟩
    rw [old j (by omega)]
    exact hF.row j (by omega) hj3
  have g : ¬ (a : Int) + 3 > (s.len : Int) := g
  have hM := hF.map (by omega)
  unfold lz_finder_add.j1
  refine h.drewK fun w h => ?_
  have set : ∀ (P2 : List Int) (w : World), P2.length = a + 1 → (∀ j, j < a + 1 → j + 3 ≤ xs.length → P2.getD j 0 = prI xs j) → St F0 w0 w (blkA fb [.slice s.a s.len s.cap, .map (some mb), .slice p2.a p2.len p2.cap] :: mpA mb (kvl E) :: ownA 1 p2 (ivs .i64 P2) :: ps) →
      ∃ w7 : World, muR Try.prog 161 (.map (some mb)) (.agg ⟨kyL (key3 xs a)⟩) (.int .i64 (a : Int)) w w7 ∧ K (.returned (.tuple ⟨[]⟩)) w7 := by
    intro P2 w h1 h2 h
    refine h.kset hF.keys (key_b hb a) fun E' w h he => ?_
    refine hk p2 E' P2 w (fin_c h.sub) ⟨h1, ?_, fun hle => hM.next he, h2⟩
    rcases he with ⟨rfl, _⟩ | ⟨j, e, _, _, rfl⟩
    · intro e he
      rcases List.mem_append.1 he with he | he
      · exact hF.keys e he
      · have : e = (key3 xs a, (a : Int)) := by simpa using he
        subst this
        exact key_b hb a
    · intro e2 he
      rcases List.mem_or_eq_of_mem_set he with he | rfl
      · exact hF.keys e2 he
      · exact key_b hb a
  have j2 : ∀ (P2 : List Int) (w : World), P2.length = a + 1 → (∀ j, j < a + 1 → j + 3 ≤ xs.length → P2.getD j 0 = prI xs j) → St F0 w0 w (blkA fb [.slice s.a s.len s.cap, .map (some mb), .slice p2.a p2.len p2.cap] :: mpA mb (kvl E) :: ownA 1 p2 (ivs .i64 P2) :: ps) →
      lz_finder_add.j2 (some ⟨fb, 0, none⟩) (a : Int) (fun v w' => K (.returned v) w') w := by
    intro P2 w h1 h2 h
    unfold lz_finder_add.j2
    refine h.drewK fun w h => ?_
    refine nz_i ⟨?_, ?_⟩
    · refine h.fM ?_
      exact lz_finder_key.c (xs := xs) (i := a) h hc (by omega) fun w h => ⟨_, rfl, set P2 w h1 h2 h⟩
    · refine lz_finder_key.c (xs := xs) (i := a) h hc (by omega) fun w h => ⟨_, rfl, ?_⟩
      exact h.fM (set P2 w h1 h2 h)
  have j3 : ∀ (w : World) (r20 : Int) (r21 : Bool), ((r21 = false ∧ lastK xs (key3 xs a) a = none) ∨ ∃ i : Nat, r20 = (i : Int) ∧ r21 = true ∧ lastK xs (key3 xs a) a = some i) →
      St F0 w0 w (blkA fb [.slice s.a s.len s.cap, .map (some mb), .slice p2.a p2.len p2.cap] :: mpA mb (kvl E) :: ownA 1 p2 (ivs .i64 (P ++ [-1])) :: ps) → lz_finder_add.j3 (some ⟨fb, 0, none⟩) (a : Int) r20 r21 (fun v w' => K (.returned v) w') w := by
    intro w r20 r21 hr h
    unfold lz_finder_add.j3
    rcases hr with ⟨rfl, e⟩ | ⟨i, rfl, rfl, e⟩
    · refine br_f1 (j2 _ w (by simp [hPl]) (fun j hj hj3 => ?_) h)
      rcases Nat.lt_or_ge j a with h1 | h1
      · rw [old j h1]; exact hF.row j h1 hj3
      · have : j = a := by omega
        subst this
        unfold prI
        rw [e, List.getD, List.getElem?_append_right (by omega), hPl]
        simp
    · refine br_t1 (nz_i (h.fL ?_))
      refine h.sx (s := p2) a rfl (by simp [hPl]) fun w h => ?_
      refine j2 ((P ++ [-1]).set a (i : Int)) w (by simp [hPl]) (fun j hj hj3 => ?_) h.sub
      rcases Nat.lt_or_ge j a with h1 | h1
      · rw [List.getD, List.getElem?_set, if_neg (by omega)]
        have := old j h1
        rw [List.getD] at this
        rw [this]; exact hF.row j h1 hj3
      · have : j = a := by omega
        subst this
        unfold prI
        rw [e, List.getD, List.getElem?_set, if_pos rfl, if_pos (by simp [hPl])]
        rfl
  have lk : ∀ (w : World), St F0 w0 w (blkA fb [.slice s.a s.len s.cap, .map (some mb), .slice p2.a p2.len p2.cap] :: mpA mb (kvl E) :: ownA 1 p2 (ivs .i64 (P ++ [-1])) :: ps) →
      ∃ r20 : Int, ∃ r21 : Bool, lkR Try.prog 161 (.map (some mb)) (.agg ⟨kyL (key3 xs a)⟩) true w (.tuple ⟨[.int .i64 r20, .bool r21]⟩) ∧ lz_finder_add.j3 (some ⟨fb, 0, none⟩) (a : Int) r20 r21 (fun v w' => K (.returned v) w') w := by
    intro w h
    refine h.klook hF.keys (key_b hb a) (fun hn => j3 w 0 false (Or.inl ⟨rfl, ?_⟩) h) (fun e he hek => ?_)
    · cases hj : lastK xs (key3 xs a) a with
      | none => rfl
      | some i =>
        obtain ⟨j, e, h1, h2⟩ := hM.all _ _ hj
        exact absurd h2 (hn e (List.mem_of_getElem? h1))
    · obtain ⟨j, hj⟩ := List.mem_iff_getElem?.1 he
      obtain ⟨i, h1, h2⟩ := hM.val j e hj
      rw [hek] at h2
      exact j3 w _ true (Or.inr ⟨i, h1, rfl, h2⟩) h
  refine nz_i ⟨?_, ?_⟩
  · refine h.fM ?_
    exact lz_finder_key.c (xs := xs) (i := a) h hc (by omega) fun w h => ⟨_, rfl, lk w h⟩
  · refine lz_finder_key.c (xs := xs) (i := a) h hc (by omega) fun w h => ⟨_, rfl, ?_⟩
    exact h.fM (lk w h)

end

end Go.Proofs.Ytkajimndclhgaaa
