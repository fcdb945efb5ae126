/- The finder: its map, its row, its walk. Own work. -/
import Derived.Test.YtkajimndclhgaaaMap
import Derived.Test.YtkajimndclhgaaaLzB
import Derived.Test.YtkajimndclhgaaaLzR
namespace Go.Proofs.Ytkajimndclhgaaa
open Go Go.Proofs Go.ChangeShapes Go.WideShapes Go.MapKept Go.Maps
set_option linter.unusedVariables false
set_option linter.unusedSimpArgs false
attribute [local irreducible] apK cpK mkK br

/-! ### 1. keys of three bytes -/

abbrev kyL (k : Int × Int × Int) : List Value := [.int .u8 k.1, .int .u8 k.2.1, .int .u8 k.2.2]
def kyV (k : Int × Int × Int) : Value := .agg ⟨kyL k⟩
theorem kyV_inj {a b : Int × Int × Int} (h : kyV a = kyV b) : a = b := by
  obtain ⟨a1, a2, a3⟩ := a
  obtain ⟨b1, b2, b3⟩ := b
  simpa [kyV] using h
def kyB (k : Int × Int × Int) : Prop := (0 ≤ k.1 ∧ k.1 < 256) ∧ (0 ≤ k.2.1 ∧ k.2.1 < 256) ∧ (0 ≤ k.2.2 ∧ k.2.2 < 256)

theorem key_lit {P : Program} {t e : TypeId} {m : Nat} (h1 : P.underlying t = some (.array 3 e)) (h2 : P.underlying e = some (.int .u8)) (h3 : P.cellsOf t = 3) (h4 : P.cellsOf e = 1) (h5 : P.keyType t = true) (h6 : P.types.size + 1 = m + 2) {k : Int × Int × Int} (hk : kyB k) : ∃ l, keyOf P t (kyV k) = some l := by
  obtain ⟨⟨a1, a2⟩, ⟨b1, b2⟩, ⟨c1, c2⟩⟩ := hk
  have wf : ∀ n : Int, 0 ≤ n → n < 256 → (Lit.int .u8 n).wf = true := by
    intro n h0 h1
    simp [Lit.wf, show IntKind.u8.min = 0 from rfl, show IntKind.u8.max = 255 from rfl]
    omega
  have e1 : ∀ n : Int, 0 ≤ n → n < 256 → P.keyLits (m + 1) e [.int .u8 n] = some [.int .u8 n] := by
    intro n h0 h1
    unfold Program.keyLits
    rw [h2]
    simp [wf n h0 h1]
  have e2 : ∃ ls, P.keyLits (m + 2) t (kyL k) = some ls := by
    unfold Program.keyLits
    rw [h1]
    simp only [h3, h4]
    rw [if_pos (show (kyL k).length = 3 from rfl), show List.range 3 = [0, 1, 2] from rfl]
    simp [e1 _ a1 a2, e1 _ b1 b2, e1 _ c1 c2]
  obtain ⟨ls, e2⟩ := e2
  unfold keyOf
  rw [h1]
  have e3 : (kyV k).formed P t = true := by simp [kyV, Value.formed, h1, h3]
  have e4 : (kyV k).cells.toList = kyL k := rfl
  simp only [h5, e3, e4, h6, e2]
  exact ⟨_, rfl⟩

theorem ky_keyed : Keyed Try.prog 194 := keyed_deep f_laid (m := 2) (by omega) (of_decide_eq_true (by kernel_rfl)) (by kernel_rfl) (by kernel_rfl)
theorem ky_lit {k : Int × Int × Int} (hk : kyB k) : ∃ l, keyOf Try.prog 194 (kyV k) = some l :=
  key_lit (e := 5) (m := Try.prog.types.size - 1) (by kernel_rfl) (by kernel_rfl) (by kernel_rfl) (by kernel_rfl) (by kernel_rfl) (by kernel_rfl) hk
theorem ky_map : Try.prog.underlying 161 = some (.map 194 3) := by kernel_rfl

/-! ### 2. the map of keys -/

abbrev kvl (E : List ((Int × Int × Int) × Int)) : List (Value × Value) := E.map fun e => (kyV e.1, .int .i64 e.2)

section
variable {F0 : List Nat} {w0 w : World} {ps rest : List As} {b : Nat} {E : List ((Int × Int × Int) × Int)} {k : Int × Int × Int}

theorem kvl_lit (hE : ∀ e ∈ E, kyB e.1) : ∀ p ∈ kvl E, ∃ l, keyOf Try.prog 194 p.1 = some l := by
  intro p hp
  obtain ⟨e, he, rfl⟩ := List.mem_map.1 hp
  exact ky_lit (hE e he)

theorem St.klook {K : Int → Bool → Prop} (h : St F0 w0 w ps) [PkF mpA b ps (kvl E) rest] (hE : ∀ e ∈ E, kyB e.1) (hk : kyB k) (h1 : (∀ e ∈ E, e.1 ≠ k) → K 0 false) (h2 : ∀ e ∈ E, e.1 = k → K e.2 true) :
    ∃ r20 : Int, ∃ r21 : Bool, lkR Try.prog 161 (.map (some b)) (.agg ⟨kyL k⟩) true w (.tuple ⟨[.int .i64 r20, .bool r21]⟩) ∧ K r20 r21 := by
  have hz : (zeroValue (3 : TypeId)).run Try.prog w = .ok (.int .i64 0) w := by kernel_rfl
  rcases (h.toF mpA b).mlook ky_keyed ky_map (kvl_lit hE) true hz (ky_lit hk) with ⟨h3, h4⟩ | ⟨j, p, h3, h4, h5⟩
  · refine ⟨0, false, h3, h1 fun e he hne => ?_⟩
    exact h4 (kyV e.1, .int .i64 e.2) (List.mem_map.2 ⟨e, he, rfl⟩) (by rw [hne])
  · rw [List.getElem?_map] at h3
    cases he : E[j]? with
    | none => rw [he] at h3; cases h3
    | some e =>
      rw [he] at h3
      injection h3 with h3
      subst h3
      have hm : e ∈ E := List.mem_of_getElem? he
      exact ⟨e.2, true, h5, h2 e hm (kyV_inj h4)⟩

theorem St.kset {v : Int} {K : World → Prop} (h : St F0 w0 w ps) [PkF mpA b ps (kvl E) rest] (hE : ∀ e ∈ E, kyB e.1) (hk : kyB k)
    (hK : ∀ E' w', St F0 w0 w' (mpA b (kvl E') :: rest) → ((E' = E ++ [(k, v)] ∧ ∀ e ∈ E, e.1 ≠ k) ∨ ∃ j, ∃ e : (Int × Int × Int) × Int, E[j]? = some e ∧ e.1 = k ∧ E' = E.set j (k, v)) → K w') :
    ∃ w', muR Try.prog 161 (.map (some b)) (.agg ⟨kyL k⟩) (.int .i64 v) w w' ∧ K w' := by
  refine (h.toF mpA b).mset ky_keyed ky_map (kvl_lit hE) (ky_lit hk) fun kv' w' h he => ?_
  rcases he with ⟨rfl, h1⟩ | ⟨j, p, h1, h2, rfl⟩
  · refine hK (E ++ [(k, v)]) w' (by rw [show kvl (E ++ [(k, v)]) = kvl E ++ [(.agg ⟨kyL k⟩, .int .i64 v)] by simp [kyV]]; exact h) (Or.inl ⟨rfl, fun e he hne => ?_⟩)
    exact h1 (kyV e.1, .int .i64 e.2) (List.mem_map.2 ⟨e, he, rfl⟩) (by rw [hne]; rfl)
  · rw [List.getElem?_map] at h1
    cases he : E[j]? with
    | none => rw [he] at h1; cases h1
    | some e =>
      rw [he] at h1
      injection h1 with h1
      subst h1
      refine hK (E.set j (k, v)) w' (by rw [show kvl (E.set j (k, v)) = (kvl E).set j (.agg ⟨kyL k⟩, .int .i64 v) by rw [kvl, List.map_set]; rfl]; exact h) (Or.inr ⟨j, e, he, kyV_inj h2, rfl⟩)

end

/-! ### 3. what the map and the row hold -/

structure KM (b : List Int) (E : List ((Int × Int × Int) × Int)) (n : Nat) : Prop where
  val : ∀ (j : Nat) (e : (Int × Int × Int) × Int), E[j]? = some e → ∃ i : Nat, e.2 = (i : Int) ∧ lastK b e.1 n = some i
  all : ∀ k i, lastK b k n = some i → ∃ (j : Nat) (e : (Int × Int × Int) × Int), E[j]? = some e ∧ e.1 = k
  one : ∀ (i j : Nat) (e e' : (Int × Int × Int) × Int), E[i]? = some e → E[j]? = some e' → e.1 = e'.1 → i = j

theorem KM.nil (b : List Int) : KM b [] 0 := ⟨fun j e h => (by simp at h), fun k i h => (by cases h), fun i j e e' h => (by simp at h)⟩

theorem KM.next {b : List Int} {E E' : List ((Int × Int × Int) × Int)} {n : Nat} (h : KM b E n)
    (he : (E' = E ++ [(key3 b n, (n : Int))] ∧ ∀ e ∈ E, e.1 ≠ key3 b n) ∨ ∃ j, ∃ e : (Int × Int × Int) × Int, E[j]? = some e ∧ e.1 = key3 b n ∧ E' = E.set j (key3 b n, (n : Int))) : KM b E' (n + 1) := by
  rcases he with ⟨rfl, hn⟩ | ⟨j0, e0, hj0, he0, rfl⟩
  · have sn : ∀ j e, (E ++ [(key3 b n, (n : Int))])[j]? = some e → E[j]? = some e ∨ (j = E.length ∧ e = (key3 b n, (n : Int))) := by
      intro j e hj
      rcases Nat.lt_or_ge j E.length with h1 | h1
      · rw [List.getElem?_append_left h1] at hj; exact Or.inl hj
      · rw [List.getElem?_append_right h1] at hj
        have : j = E.length := by
          rcases Nat.eq_or_lt_of_le h1 with h2 | h2
          · exact h2.symm
          · rw [List.getElem?_eq_none (by simp; omega)] at hj; cases hj
        subst this
        simp at hj
        exact Or.inr ⟨rfl, hj.symm⟩
    refine ⟨fun j e hj => ?_, fun k i hi => ?_, fun i j e e' hi hj hk => ?_⟩
    · rcases sn j e hj with h1 | ⟨_, rfl⟩
      · obtain ⟨i, h2, h3⟩ := h.val j e h1
        refine ⟨i, h2, ?_⟩
        rw [lastK, if_neg (fun e2 => hn e (List.mem_of_getElem? h1) e2.symm)]
        exact h3
      · refine ⟨n, rfl, ?_⟩
        rw [lastK, if_pos rfl]
    · rw [lastK] at hi
      split at hi
      · rename_i hk
        exact ⟨E.length, (key3 b n, (n : Int)), by simp, hk⟩
      · obtain ⟨j, e, h1, h2⟩ := h.all k i hi
        refine ⟨j, e, ?_, h2⟩
        rw [List.getElem?_append_left (List.getElem?_eq_some_iff.1 h1).1]
        exact h1
    · rcases sn i e hi with h1 | ⟨rfl, rfl⟩
      · rcases sn j e' hj with h2 | ⟨rfl, rfl⟩
        · exact h.one i j e e' h1 h2 hk
        · exact absurd hk (hn e (List.mem_of_getElem? h1))
      · rcases sn j e' hj with h2 | ⟨rfl, rfl⟩
        · exact absurd hk.symm (hn e' (List.mem_of_getElem? h2))
        · rfl
  · have hlt : j0 < E.length := (List.getElem?_eq_some_iff.1 hj0).1
    have sn : ∀ j e, (E.set j0 (key3 b n, (n : Int)))[j]? = some e → (j = j0 ∧ e = (key3 b n, (n : Int))) ∨ (j ≠ j0 ∧ E[j]? = some e) := by
      intro j e hj
      rw [List.getElem?_set] at hj
      by_cases h1 : j0 = j
      · subst h1
        rw [if_pos rfl, if_pos hlt] at hj
        injection hj with hj
        exact Or.inl ⟨rfl, hj.symm⟩
      · rw [if_neg h1] at hj
        exact Or.inr ⟨fun e => h1 e.symm, hj⟩
    refine ⟨fun j e hj => ?_, fun k i hi => ?_, fun i j e e' hi hj hk => ?_⟩
    · rcases sn j e hj with ⟨rfl, rfl⟩ | ⟨hne, h1⟩
      · refine ⟨n, rfl, ?_⟩
        rw [lastK, if_pos rfl]
      · obtain ⟨i, h2, h3⟩ := h.val j e h1
        refine ⟨i, h2, ?_⟩
        rw [lastK, if_neg (fun e2 => hne (h.one j j0 e e0 h1 hj0 (e2.symm.trans he0.symm)))]
        exact h3
    · rw [lastK] at hi
      split at hi
      · rename_i hk
        refine ⟨j0, (key3 b n, (n : Int)), ?_, hk⟩
        rw [List.getElem?_set, if_pos rfl, if_pos hlt]
      · rename_i hk
        obtain ⟨j, e, h1, h2⟩ := h.all k i hi
        refine ⟨j, e, ?_, h2⟩
        rw [List.getElem?_set, if_neg, h1]
        intro hjj
        subst hjj
        rw [hj0] at h1
        injection h1 with h1
        subst h1
        exact hk (he0.symm.trans h2)
    · rcases sn i e hi with ⟨rfl, rfl⟩ | ⟨hne, h1⟩
      · rcases sn j e' hj with ⟨rfl, rfl⟩ | ⟨hne2, h2⟩
        · rfl
        · exact absurd (h.one j i e' e0 h2 hj0 (hk.symm.trans he0.symm)) hne2
      · rcases sn j e' hj with ⟨rfl, rfl⟩ | ⟨hne2, h2⟩
        · exact absurd (h.one i j e e0 h1 hj0 (hk.trans he0.symm)) hne
        · exact h.one i j e e' h1 h2 hk

/-- what the row says of place j -/
def prI (b : List Int) (j : Nat) : Int := match lastK b (key3 b j) j with
  | none => -1
  | some i => (i : Int)

structure FOK (b : List Int) (E : List ((Int × Int × Int) × Int)) (P : List Int) (n : Nat) : Prop where
  len : P.length = n
  keys : ∀ e ∈ E, kyB e.1
  map : n + 2 ≤ b.length → KM b E n
  row : ∀ j, j < n → j + 3 ≤ b.length → P.getD j 0 = prI b j

theorem key_b {b : List Int} (hb : ∀ x ∈ b, 0 ≤ x ∧ x < 256) (i : Nat) : kyB (key3 b i) := by
  have : ∀ j, 0 ≤ b.getD j 0 ∧ b.getD j 0 < 256 := by
    intro j
    rcases Nat.lt_or_ge j b.length with h | h
    · rw [List.getD, List.getElem?_eq_getElem h]
      exact hb _ (List.getElem_mem h)
    · rw [List.getD, List.getElem?_eq_none h]
      decide
  exact ⟨this _, this _, this _⟩

end Go.Proofs.Ytkajimndclhgaaa
