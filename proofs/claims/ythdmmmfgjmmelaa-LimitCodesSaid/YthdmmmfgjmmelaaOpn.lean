/- Slices of structs of three integers that came in: what can be read. Own work. -/
import Derived.Test.YthdmmmfgjmmelaaBitE
import Derived.Deep.Slices
import Derived.ChangeSlices
namespace Go.Proofs.Ythdmmmfgjmmelaa
open Go Go.Proofs Go.ChangeShapes Go.WideShapes Go.Deep
set_option linter.unusedVariables false
set_option linter.unusedSimpArgs false

def tri (k0 k1 k2 : IntKind) (xs : List (Int × Int × Int)) : List Value := xs.flatMap fun a => [.int k0 a.1, .int k1 a.2.1, .int k2 a.2.2]

theorem tri_length (k0 k1 k2 : IntKind) (xs : List (Int × Int × Int)) : (tri k0 k1 k2 xs).length = xs.length * 3 := by
  induction xs with
  | nil => rfl
  | cons a xs ih =>
    have e : tri k0 k1 k2 (a :: xs) = [.int k0 a.1, .int k1 a.2.1, .int k2 a.2.2] ++ tri k0 k1 k2 xs := by simp [tri]
    rw [e, List.length_append, ih, List.length_cons]
    simp; omega

theorem tri_get (k0 k1 k2 : IntKind) (xs : List (Int × Int × Int)) : ∀ (i : Nat) (h : i < xs.length), (tri k0 k1 k2 xs)[i * 3]? = some (.int k0 xs[i].1) ∧ (tri k0 k1 k2 xs)[i * 3 + 1]? = some (.int k1 xs[i].2.1) ∧ (tri k0 k1 k2 xs)[i * 3 + 2]? = some (.int k2 xs[i].2.2) := by
  induction xs with
  | nil => intro i h; simp at h
  | cons a xs ih =>
    intro i h
    have e : tri k0 k1 k2 (a :: xs) = .int k0 a.1 :: .int k1 a.2.1 :: .int k2 a.2.2 :: tri k0 k1 k2 xs := by simp [tri]
    rw [e]
    cases i with
    | zero => simp
    | succ i =>
      have := ih i (by simpa using h)
      rw [show (i + 1) * 3 = i * 3 + 1 + 1 + 1 by omega]
      simpa using this

section
variable {H : Type} {enc : TypeId × Value → H} {P : Program} {w : World} {base : Nat} {spare : Nat → Bool} {held : Bool}

theorem open_tri {t e : TypeId} {f0 f1 f2 : Field} {k0 k1 k2 : IntKind} {fuel : Nat} {s : Sl} {x : DataW H × List MemPlace} (ht : P.underlying t = some (.slice e)) (he : P.underlying e = some (.struct #[f0, f1, f2]))
    (ce : P.cellsOf e = 3) (ho : f0.offset = 0 ∧ f1.offset = 1 ∧ f2.offset = 2) (hc : P.cellsOf f0.type = 1 ∧ P.cellsOf f1.type = 1 ∧ P.cellsOf f2.type = 1)
    (u0 : P.underlying f0.type = some (.int k0)) (u1 : P.underlying f1.type = some (.int k1)) (u2 : P.underlying f2.type = some (.int k2))
    (h : DataW.trod enc P w base spare held fuel t [.slice s.a s.len s.cap] = some x) :
    ∃ xs : List (Int × Int × Int), Rd w 3 s (tri k0 k1 k2 xs) ∧ (∀ y ∈ xs, (Lit.int k0 y.1).wf = true ∧ (Lit.int k1 y.2.1).wf = true ∧ (Lit.int k2 y.2.2).wf = true) ∧ xs.length = s.len := by
  obtain ⟨sa, sl, sc⟩ := s
  rcases open_slice ht h with ⟨hcs, _⟩ | ⟨a, len, cap, m, n, D, Pl, hcs, hb, hl, hm, hmm, rfl, hx⟩
  · simp at hcs
    obtain ⟨rfl, rfl, rfl⟩ := hcs
    exact ⟨[], ⟨rfl, fun i hi => by simp [tri] at hi⟩, by simp, rfl⟩
  simp at hcs
  obtain ⟨rfl, rfl, rfl⟩ := hcs
  have hlm : sl ≤ m := by rw [hmm]; split <;> omega
  have each : ∀ i, i < sl → ∃ q : Int × Int × Int, w.cell? (a.add (i * 3)) = some (.int k0 q.1) ∧ w.cell? (a.add (i * 3 + 1)) = some (.int k1 q.2.1) ∧ w.cell? (a.add (i * 3 + 2)) = some (.int k2 q.2.2) ∧
      (Lit.int k0 q.1).wf = true ∧ (Lit.int k1 q.2.1).wf = true ∧ (Lit.int k2 q.2.2).wf = true := by
    intro i hi
    obtain ⟨cs', h1, h2⟩ := hx i (by omega)
    rw [ce] at h1
    obtain ⟨_, hlen, hcell⟩ := World.cells?_some h1
    obtain ⟨xs, k, hk, hxy, _, hxl, hf⟩ := DataW.trod_struct he h2
    match xs, hxl, cs', hlen with
    | [y0, y1, y2], _, [v0, v1, v2], _ =>
      have g0 := hf 0 f0 rfl
      have g1 := hf 1 f1 rfl
      have g2 := hf 2 f2 rfl
      simp [ho.1, ho.2.1, ho.2.2, hc.1, hc.2.1, hc.2.2] at g0 g1 g2
      have e0 := hcell 0 (by omega)
      have e1 := hcell 1 (by omega)
      have e2 := hcell 2 (by omega)
      rw [Go.Proofs.Ythdmmmfgjmmelaa.add_add] at e0 e1 e2
      obtain ⟨n0, a0, _, b0⟩ := DataW.trod_int u0 g0
      obtain ⟨n1, a1, _, b1⟩ := DataW.trod_int u1 g1
      obtain ⟨n2, a2, _, b2⟩ := DataW.trod_int u2 g2
      simp at a0 a1 a2
      subst a0 a1 a2
      exact ⟨(n0, n1, n2), by simpa using e0, by simpa using e1, by simpa using e2, b0, b1, b2⟩
  obtain ⟨q, hq⟩ := choose_lt each
  refine ⟨(List.range sl).map q, ⟨by rw [tri_length]; simp, fun i hi => ⟨a, rfl, ?_⟩⟩, ?_, by simp⟩
  · rw [tri_length, List.length_map, List.length_range] at hi
    have hi3 : i / 3 < sl := by omega
    have hq3 := hq (i / 3) hi3
    have hg := tri_get k0 k1 k2 ((List.range sl).map q) (i / 3) (by simpa using hi3)
    simp only [List.getElem_map, List.getElem_range] at hg
    have hc : i = i / 3 * 3 ∨ i = i / 3 * 3 + 1 ∨ i = i / 3 * 3 + 2 := by omega
    generalize i / 3 = j at hc hg hq3
    rcases hc with rfl | rfl | rfl
    · rw [hq3.1, hg.1]
    · rw [hq3.2.1, hg.2.1]
    · rw [hq3.2.2.1, hg.2.2]
  · intro y hy
    obtain ⟨i, hi, rfl⟩ := List.mem_map.1 hy
    exact (hq i (List.mem_range.1 hi)).2.2.2

/-- a slice of integers: what it holds -/
theorem open_row {t e : TypeId} {k : IntKind} {fuel : Nat} {s : Sl} {x : DataW H × List MemPlace} (ht : P.underlying t = some (.slice e)) (he : P.underlying e = some (.int k)) (hc : P.cellsOf e = 1)
    (h : DataW.trod enc P w base spare held fuel t [.slice s.a s.len s.cap] = some x) :
    ∃ xs : List Int, Rd w 1 s (xs.map (Value.int k)) ∧ (∀ n ∈ xs, (Lit.int k n).wf = true) ∧ xs.length = s.len ∧ s.len ≤ s.cap := by
  obtain ⟨sa, sl, sc⟩ := s
  rcases open_ints ht he hc h with ⟨hcs, _⟩ | ⟨a, l, c, zs, hcs, _, hl, hm, hz, _, hcell, hwz⟩
  · simp at hcs
    obtain ⟨rfl, rfl, rfl⟩ := hcs
    exact ⟨[], ⟨rfl, fun i hi => by simp at hi⟩, by simp, rfl, Nat.le_refl _⟩
  · simp at hcs
    obtain ⟨rfl, rfl, rfl⟩ := hcs
    have hz : sl ≤ zs.length := by rw [hz]; split <;> omega
    refine ⟨zs.take sl, ⟨by simp; omega, fun i hi => ⟨a, rfl, ?_⟩⟩, fun n hn => hwz n (List.mem_of_mem_take hn), by simp; omega, hl⟩
    simp only [List.length_map, List.length_take] at hi
    rw [hcell i (by omega)]
    rw [List.getElem?_map, List.getElem?_take, if_pos (by omega), List.getElem?_eq_getElem (show i < zs.length by omega)]
    simp [List.getD, List.getElem?_eq_getElem (show i < zs.length by omega)]

instance : Inhabited Sl := ⟨⟨none, 0, 0⟩⟩
/-- slices as values -/
def sls (L : List (Sl × List Int)) : List Value := L.map fun x => .slice x.1.a x.1.len x.1.cap

/-- a slice of slices of integers: what it holds -/
theorem open_rows {t e f : TypeId} {k : IntKind} {fuel : Nat} {s : Sl} {x : DataW H × List MemPlace} (ht : P.underlying t = some (.slice e)) (he : P.underlying e = some (.slice f)) (hf : P.underlying f = some (.int k)) (hce : P.cellsOf e = 1) (hc : P.cellsOf f = 1)
    (h : DataW.trod enc P w base spare held fuel t [.slice s.a s.len s.cap] = some x) :
    ∃ L : List (Sl × List Int), Rd w 1 s (sls L) ∧ (∀ y ∈ L, Rd w 1 y.1 (y.2.map (Value.int k)) ∧ (∀ n ∈ y.2, (Lit.int k n).wf = true) ∧ y.1.len ≤ y.1.cap) ∧ L.length = s.len ∧ s.len ≤ s.cap := by
  obtain ⟨sa, sl, sc⟩ := s
  rcases open_slice1 ht hce h with ⟨hcs, _⟩ | ⟨a, len, cap, m, n, V, D, Pl, hcs, hb, hl, hm, hmm, rfl, hx⟩
  · simp at hcs
    obtain ⟨rfl, rfl, rfl⟩ := hcs
    exact ⟨[], ⟨rfl, fun i hi => by simp [sls] at hi⟩, by simp, rfl, Nat.le_refl _⟩
  simp at hcs
  obtain ⟨rfl, rfl, rfl⟩ := hcs
  have hlm : sl ≤ m := by rw [hmm]; split <;> omega
  have each : ∀ i, i < sl → ∃ q : Sl × List Int, w.cell? (a.add i) = some (.slice q.1.a q.1.len q.1.cap) ∧ Rd w 1 q.1 (q.2.map (Value.int k)) ∧ (∀ n ∈ q.2, (Lit.int k n).wf = true) ∧ q.1.len ≤ q.1.cap := by
    intro i hi
    obtain ⟨h1, h2⟩ := hx i (by omega)
    have hs : ∃ z : Sl, V i = .slice z.a z.len z.cap := by
      rcases open_slice he h2 with ⟨hcs, _⟩ | ⟨a2, l2, c2, _, _, _, _, hcs, _⟩
      · exact ⟨⟨none, 0, 0⟩, by simpa using hcs⟩
      · exact ⟨⟨some a2, l2, c2⟩, by simpa using hcs⟩
    obtain ⟨z, hz⟩ := hs
    rw [hz] at h1 h2
    obtain ⟨xs, g1, g2, g3, g4⟩ := open_row he hf hc h2
    exact ⟨(z, xs), h1, g1, g2, g4⟩
  obtain ⟨q, hq⟩ := choose_lt each
  refine ⟨(List.range sl).map q, ⟨by simp [sls], fun i hi => ⟨a, rfl, ?_⟩⟩, ?_, by simp, hl⟩
  · have hi : i < sl := by simpa [sls] using hi
    rw [(hq i hi).1]
    simp [sls, hi]
  · intro y hy
    obtain ⟨i, hi, rfl⟩ := List.mem_map.1 hy
    exact (hq i (List.mem_range.1 hi)).2

/-- pairs of integers, cell by cell -/
def duo (k0 k1 : IntKind) (xs : List (Int × Int)) : List Value := xs.flatMap fun a => [.int k0 a.1, .int k1 a.2]
theorem duo_length (k0 k1 : IntKind) (xs : List (Int × Int)) : (duo k0 k1 xs).length = xs.length * 2 := by
  induction xs with
  | nil => rfl
  | cons a xs ih =>
    have e : duo k0 k1 (a :: xs) = [.int k0 a.1, .int k1 a.2] ++ duo k0 k1 xs := by simp [duo]
    rw [e, List.length_append, ih, List.length_cons]
    simp; omega
theorem duo_get (k0 k1 : IntKind) (xs : List (Int × Int)) : ∀ (i : Nat) (h : i < xs.length), (duo k0 k1 xs)[i * 2]? = some (.int k0 xs[i].1) ∧ (duo k0 k1 xs)[i * 2 + 1]? = some (.int k1 xs[i].2) := by
  induction xs with
  | nil => intro i h; simp at h
  | cons a xs ih =>
    intro i h
    have e : duo k0 k1 (a :: xs) = .int k0 a.1 :: .int k1 a.2 :: duo k0 k1 xs := by simp [duo]
    rw [e]
    cases i with
    | zero => simp
    | succ i =>
      have := ih i (by simpa using h)
      rw [show (i + 1) * 2 = i * 2 + 1 + 1 by omega]
      simpa using this

theorem open_duo {t e : TypeId} {f0 f1 : Field} {k0 k1 : IntKind} {fuel : Nat} {s : Sl} {x : DataW H × List MemPlace} (ht : P.underlying t = some (.slice e)) (he : P.underlying e = some (.struct #[f0, f1]))
    (ce : P.cellsOf e = 2) (ho : f0.offset = 0 ∧ f1.offset = 1) (hc : P.cellsOf f0.type = 1 ∧ P.cellsOf f1.type = 1)
    (u0 : P.underlying f0.type = some (.int k0)) (u1 : P.underlying f1.type = some (.int k1))
    (h : DataW.trod enc P w base spare held fuel t [.slice s.a s.len s.cap] = some x) :
    ∃ xs : List (Int × Int), Rd w 2 s (duo k0 k1 xs) ∧ (∀ y ∈ xs, (Lit.int k0 y.1).wf = true ∧ (Lit.int k1 y.2).wf = true) ∧ xs.length = s.len := by
  obtain ⟨sa, sl, sc⟩ := s
  rcases open_slice ht h with ⟨hcs, _⟩ | ⟨a, len, cap, m, n, D, Pl, hcs, hb, hl, hm, hmm, rfl, hx⟩
  · simp at hcs
    obtain ⟨rfl, rfl, rfl⟩ := hcs
    exact ⟨[], ⟨rfl, fun i hi => by simp [duo] at hi⟩, by simp, rfl⟩
  simp at hcs
  obtain ⟨rfl, rfl, rfl⟩ := hcs
  have hlm : sl ≤ m := by rw [hmm]; split <;> omega
  have each : ∀ i, i < sl → ∃ q : Int × Int, w.cell? (a.add (i * 2)) = some (.int k0 q.1) ∧ w.cell? (a.add (i * 2 + 1)) = some (.int k1 q.2) ∧
      (Lit.int k0 q.1).wf = true ∧ (Lit.int k1 q.2).wf = true := by
    intro i hi
    obtain ⟨cs', h1, h2⟩ := hx i (by omega)
    rw [ce] at h1
    obtain ⟨_, hlen, hcell⟩ := World.cells?_some h1
    obtain ⟨xs, k, hk, hxy, _, hxl, hf⟩ := DataW.trod_struct he h2
    match xs, hxl, cs', hlen with
    | [y0, y1], _, [v0, v1], _ =>
      have g0 := hf 0 f0 rfl
      have g1 := hf 1 f1 rfl
      simp [ho.1, ho.2, hc.1, hc.2] at g0 g1
      have e0 := hcell 0 (by omega)
      have e1 := hcell 1 (by omega)
      rw [Go.Proofs.Ythdmmmfgjmmelaa.add_add] at e0 e1
      obtain ⟨n0, a0, _, b0⟩ := DataW.trod_int u0 g0
      obtain ⟨n1, a1, _, b1⟩ := DataW.trod_int u1 g1
      simp at a0 a1
      subst a0 a1
      exact ⟨(n0, n1), by simpa using e0, by simpa using e1, b0, b1⟩
  obtain ⟨q, hq⟩ := choose_lt each
  refine ⟨(List.range sl).map q, ⟨by rw [duo_length]; simp, fun i hi => ⟨a, rfl, ?_⟩⟩, ?_, by simp⟩
  · rw [duo_length, List.length_map, List.length_range] at hi
    have hi3 : i / 2 < sl := by omega
    have hq3 := hq (i / 2) hi3
    have hg := duo_get k0 k1 ((List.range sl).map q) (i / 2) (by simpa using hi3)
    simp only [List.getElem_map, List.getElem_range] at hg
    have hc : i = i / 2 * 2 ∨ i = i / 2 * 2 + 1 := by omega
    generalize i / 2 = j at hc hg hq3
    rcases hc with rfl | rfl
    · rw [hq3.1, hg.1]
    · rw [hq3.2.1, hg.2]
  · intro y hy
    obtain ⟨i, hi, rfl⟩ := List.mem_map.1 hy
    exact (hq i (List.mem_range.1 hi)).2.2

end

end Go.Proofs.Ythdmmmfgjmmelaa
