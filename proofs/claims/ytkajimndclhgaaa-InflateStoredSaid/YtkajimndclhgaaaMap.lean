/- Maps in memory: look, set, make. Own work. -/
import Derived.Test.YtkajimndclhgaaaPush
import Derived.Test.YtkajimndclhgaaaFit
import Derived.Maps.Keyed
import Derived.DeepKeys4
namespace Go.Proofs.Ytkajimndclhgaaa
open Go Go.Proofs Go.ChangeShapes Go.WideShapes Go.MapKept Go.Maps
set_option linter.unusedVariables false
set_option linter.unusedSimpArgs false

theorem keyed_deep {P : Program} (hl : laidOutB P = true) {m : Nat} (hm : m + 1 ≤ 10000) {k : TypeId} (hrow : k < P.types.size) (hk : P.keyTypeAt m k = true) (hwide : (match P.underlying k with | some (.array _ _) | some (.struct _) => true | _ => false) = true) : Keyed P k :=
  Keyed.of_law (deep_law_laid hl hm hrow hk hwide)

/-- the keys and values of a map's entries -/
def kvs (es : Array MapEntry) : List (Value × Value) := es.toList.map fun e => (e.key, e.val)

section
variable {P : Program} {w : World} {k e t : TypeId} {b : Nat} {es : Array MapEntry} {clock : Nat}

theorem map_look (K : Keyed P k) (ht : P.underlying t = some (.map k e)) (hb : w.heap[b]? = some (.map es clock)) (hks : ∀ p ∈ kvs es, ∃ l, keyOf P k p.1 = some l) {z key : Value} (c : Bool) (hz : (zeroValue e).run P w = .ok z w) (hkey : ∃ l, keyOf P k key = some l) :
    ((Instr.lookup t (.map (some b)) key c).run P w = .ok (if c then .tuple #[z, .bool false] else z) w ∧ ∀ p ∈ kvs es, p.1 ≠ key) ∨
    ∃ (j : Nat) (p : Value × Value), (kvs es)[j]? = some p ∧ p.1 = key ∧ (Instr.lookup t (.map (some b)) key c).run P w = .ok (if c then .tuple #[p.2, .bool true] else p.2) w := by
  obtain ⟨l, hkey⟩ := hkey
  have hks' : ∀ x ∈ es.toList, ∃ l, keyOf P k x.key = some l := fun x hx => hks (x.key, x.val) (List.mem_map.2 ⟨x, hx, rfl⟩)
  rcases K.find w hkey es.toList hks' with ⟨h1, h2⟩ | ⟨j, e0, h1, h2, h3⟩
  · refine Or.inl ⟨by simp [Instr.lookup, run_underlying ht, MapKept.run_getObj_map hb, K.check w _ hkey, h1, hz, Result.andThen], fun p hp => ?_⟩
    obtain ⟨x, hx, rfl⟩ := List.mem_map.1 hp
    exact h2 x hx
  · refine Or.inr ⟨j, (e0.key, e0.val), ?_, h3, by simp [Instr.lookup, run_underlying ht, MapKept.run_getObj_map hb, K.check w _ hkey, h1, Result.andThen]⟩
    unfold kvs
    rw [List.getElem?_map, h2]
    rfl

theorem map_set (K : Keyed P k) (ht : P.underlying t = some (.map k e)) (hb : w.heap[b]? = some (.map es clock)) (hks : ∀ p ∈ kvs es, ∃ l, keyOf P k p.1 = some l) {key val : Value} (hkey : ∃ l, keyOf P k key = some l) :
    ∃ es' clock', (Instr.mapUpdate t (.map (some b)) key val).run P w = .ok () { w with heap := w.heap.setIfInBounds b (.map es' clock') } ∧
      ((kvs es' = kvs es ++ [(key, val)] ∧ ∀ p ∈ kvs es, p.1 ≠ key) ∨ ∃ (j : Nat) (p : Value × Value), (kvs es)[j]? = some p ∧ p.1 = key ∧ kvs es' = (kvs es).set j (key, val)) := by
  obtain ⟨l, hkey⟩ := hkey
  have hks' : ∀ x ∈ es.toList, ∃ l, keyOf P k x.key = some l := fun x hx => hks (x.key, x.val) (List.mem_map.2 ⟨x, hx, rfl⟩)
  rcases K.find w hkey es.toList hks' with ⟨h1, h2⟩ | ⟨j, e0, h1, h2, h3⟩
  · refine ⟨es.push ⟨key, val, clock⟩, clock + 1, ?_, Or.inl ⟨by simp [kvs], fun p hp => ?_⟩⟩
    · simp [Instr.mapUpdate, run_underlying ht, MapKept.run_getObj_map hb, K.check w false hkey, h1, MapKept.run_setObj_map _ hb, Result.andThen]
    · obtain ⟨x, hx, rfl⟩ := List.mem_map.1 hp
      exact h2 x hx
  · have hj : es[j]? = some e0 := by simpa using h2
    refine ⟨es.modify j fun e => { e with key, val }, clock, ?_, Or.inr ⟨j, (e0.key, e0.val), ?_, h3, ?_⟩⟩
    · simp [Instr.mapUpdate, run_underlying ht, MapKept.run_getObj_map hb, K.check w false hkey, h1, hj, h3, K.stays w hkey, MapKept.run_setObj_map _ hb, Result.andThen]
    · unfold kvs
      rw [List.getElem?_map, h2]
      rfl
    · unfold kvs
      apply List.ext_getElem?
      intro i
      simp only [List.getElem?_map, Array.getElem?_toList, Array.getElem?_modify, List.getElem?_set, List.length_map, Array.length_toList]
      by_cases hij : j = i
      · subst hij
        have hlt : j < es.size := (Array.getElem?_eq_some_iff.1 hj).1
        simp [hj, hlt]
      · simp [hij]

theorem map_make (w : World) (ht : True) : (Instr.makeMap t none).run P w = .ok (.map (some w.heap.size)) (w.alloc (.map #[] 0)) := by
  simp [Instr.makeMap, newObj, Sem.run, Result.andThen]
end

/-- a map in block b: its keys and values -/
def mpA (b : Nat) (kv : List (Value × Value)) : As where
  hd w F := (∃ es clock, w.heap[b]? = some (.map es clock) ∧ kvs es = kv) ∧ F = [b]
  keep := by
    rintro w w' F G ⟨⟨es, c, h, e⟩, rfl⟩ m hd
    have hl : b < w.heap.size := (Array.getElem?_eq_some_iff.1 h).1
    exact ⟨⟨es, c, by rw [m.frame b hl (hd b (by simp))]; exact h, e⟩, rfl⟩
  lt := by
    rintro w F ⟨⟨es, c, h, e⟩, rfl⟩ x hx
    have : x = b := by simpa using hx
    subst this
    exact (Array.getElem?_eq_some_iff.1 h).1

section
variable {F0 : List Nat} {w0 w : World} {ps rest : List As} {P : Program} {k e t : TypeId} {b : Nat} {kv : List (Value × Value)}

theorem St.mget (h : St F0 w0 w (mpA b kv :: ps)) : ∃ es clock, w.heap[b]? = some (.map es clock) ∧ kvs es = kv := by
  obtain ⟨F, h, _⟩ := h.get
  exact h

theorem St.mlook (h : St F0 w0 w (mpA b kv :: ps)) (K : Keyed P k) (ht : P.underlying t = some (.map k e)) (hks : ∀ p ∈ kv, ∃ l, keyOf P k p.1 = some l) {z key : Value} (c : Bool) (hz : (zeroValue e).run P w = .ok z w) (hkey : ∃ l, keyOf P k key = some l) :
    (lkR P t (.map (some b)) key c w (if c then .tuple #[z, .bool false] else z) ∧ ∀ p ∈ kv, p.1 ≠ key) ∨
    ∃ (j : Nat) (p : Value × Value), kv[j]? = some p ∧ p.1 = key ∧ lkR P t (.map (some b)) key c w (if c then .tuple #[p.2, .bool true] else p.2) := by
  obtain ⟨es, clock, hb, rfl⟩ := h.mget
  exact map_look K ht hb hks c hz hkey

theorem St.mset {key val : Value} {X : World → Prop} (h : St F0 w0 w (mpA b kv :: ps)) (K : Keyed P k) (ht : P.underlying t = some (.map k e)) (hks : ∀ p ∈ kv, ∃ l, keyOf P k p.1 = some l) (hkey : ∃ l, keyOf P k key = some l)
    (hk : ∀ kv' w', St F0 w0 w' (mpA b kv' :: ps) → ((kv' = kv ++ [(key, val)] ∧ ∀ p ∈ kv, p.1 ≠ key) ∨ ∃ (j : Nat) (p : Value × Value), kv[j]? = some p ∧ p.1 = key ∧ kv' = kv.set j (key, val)) → X w') :
    ∃ w', muR P t (.map (some b)) key val w w' ∧ X w' := by
  obtain ⟨f, ⟨⟨es, clock, hb, rfl⟩, rfl⟩, hst⟩ := h.step
  obtain ⟨es', clock', h1, h2⟩ := map_set (val := val) K ht hb hks hkey
  refine ⟨_, h1, hk (kvs es') _ (hst _ [b] _ ⟨rfl, rfl, rfl, by simp, fun x hx hF => ?_⟩ (Gr.refl _ _) ⟨⟨es', clock', ?_, rfl⟩, rfl⟩) h2⟩
  · simp only [Array.getElem?_setIfInBounds]
    rw [if_neg (fun e => hF (by simp [e]))]
  · have hl : b < w.heap.size := (Array.getElem?_eq_some_iff.1 hb).1
    simp [Array.getElem?_setIfInBounds, hl]

theorem St.mmake {X : Nat → World → Prop} (h : St F0 w0 w ps) (hk : ∀ mb w', St F0 w0 w' (mpA mb [] :: ps) → X mb w') : ∃ n : Nat, ∃ w' : World, mmR P t none w n w' ∧ X n w' := by
  refine ⟨_, _, map_make w trivial, hk _ _ (h.add (f' := [w.heap.size]) (Mod.alloc w _) ⟨⟨#[], 0, ?_, rfl⟩, rfl⟩ ?_)⟩
  · show (w.heap.push _)[w.heap.size]? = _
    rw [Array.getElem?_push_size]
  · intro x hx
    have : x = w.heap.size := by simpa using hx
    exact Or.inr (by omega)
end
end Go.Proofs.Ytkajimndclhgaaa
