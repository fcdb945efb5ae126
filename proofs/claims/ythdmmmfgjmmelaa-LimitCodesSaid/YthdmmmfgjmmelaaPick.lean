/- Things in memory found by their name, wherever they stand in the row. Own work. -/
import Derived.Test.YthdmmmfgjmmelaaBitF
namespace Go.Proofs.Ythdmmmfgjmmelaa
open Go Go.Proofs
set_option linter.unusedVariables false
set_option linter.unusedSimpArgs false
attribute [local irreducible] apK cpK mkK

/-! ### 1. picking -/

/-- the thing p is among ps; the others are rest -/
class PkA (p : As) (ps : List As) (rest : outParam (List As)) : Prop where
  pk : ∀ {F0 : List Nat} {w0 w : World}, St F0 w0 w ps → St F0 w0 w (p :: rest)
instance PkA.tl {p q : As} {ps rest : List As} [i : PkA p ps rest] : PkA p (q :: ps) (q :: rest) := ⟨fun h => (h.tail fun _ _ _ h => i.pk h).at1⟩
instance PkA.hd {p : As} {ps : List As} : PkA p (p :: ps) ps := ⟨id⟩

/-- block b is among ps, a row of the cells l -/
class PkB (b : Nat) (ps : List As) (l : outParam (List Value)) (rest : outParam (List As)) : Prop where
  pk : ∀ {F0 : List Nat} {w0 w : World}, St F0 w0 w ps → St F0 w0 w (blkA b l :: rest)
instance PkB.tl {b : Nat} {l : List Value} {q : As} {ps rest : List As} [i : PkB b ps l rest] : PkB b (q :: ps) l (q :: rest) := ⟨fun h => (h.tail fun _ _ _ h => i.pk h).at1⟩
instance PkB.hd {b : Nat} {l : List Value} {ps : List As} : PkB b (blkA b l :: ps) l ps := ⟨id⟩

/-- the slice s of one's own is among ps -/
class PkO (s : Sl) (ps : List As) (sz : outParam Nat) (cs : outParam (List Value)) (rest : outParam (List As)) : Prop where
  pk : ∀ {F0 : List Nat} {w0 w : World}, St F0 w0 w ps → St F0 w0 w (ownA sz s cs :: rest)
instance PkO.tl {s : Sl} {sz : Nat} {cs : List Value} {q : As} {ps rest : List As} [i : PkO s ps sz cs rest] : PkO s (q :: ps) sz cs (q :: rest) := ⟨fun h => (h.tail fun _ _ _ h => i.pk h).at1⟩
instance PkO.hd {s : Sl} {sz : Nat} {cs : List Value} {ps : List As} : PkO s (ownA sz s cs :: ps) sz cs ps := ⟨id⟩

/-- all of qs stand in ps, apart -/
class Sub (ps qs : List As) : Prop where
  sub : ∀ {F0 : List Nat} {w0 w : World}, St F0 w0 w ps → St F0 w0 w qs
instance (priority := 100) Sub.dr {q : As} {ps qs : List As} [i : Sub ps qs] : Sub (q :: ps) qs := ⟨fun h => i.sub h.drop⟩
instance (priority := 500) Sub.cons {p : As} {ps rest qs : List As} [i : PkA p ps rest] [j : Sub rest qs] : Sub ps (p :: qs) := ⟨fun h => (i.pk h).tail fun _ _ _ h => j.sub h⟩
instance (priority := 2000) Sub.refl {ps : List As} : Sub ps ps := ⟨id⟩
instance (priority := 3000) Sub.nil {ps : List As} : Sub ps [] := ⟨fun h => ⟨h.1, [], rfl, fun x hx => by cases hx⟩⟩

/-- slice s can be read where ps stand -/
class Rdb (F0 : List Nat) (w0 : World) (s : Sl) (ps : List As) (sz : outParam Nat) (cs : outParam (List Value)) : Prop where
  rd : ∀ {w : World}, St F0 w0 w ps → Rd w sz s cs
instance Rdb.tl {F0 : List Nat} {w0 : World} {s : Sl} {q : As} {ps : List As} {sz : Nat} {cs : List Value} [i : Rdb F0 w0 s ps sz cs] : Rdb F0 w0 s (q :: ps) sz cs := ⟨fun h => i.rd h.drop⟩
instance Rdb.own {F0 : List Nat} {w0 : World} {s : Sl} {ps : List As} {sz : Nat} {cs : List Value} : Rdb F0 w0 s (ownA sz s cs :: ps) sz cs := ⟨fun h => h.ord⟩
instance Rdb.rdo {F0 : List Nat} {w0 : World} {s : Sl} {ps : List As} {sz : Nat} {cs : List Value} : Rdb F0 w0 s (rdA sz s cs :: ps) sz cs := ⟨fun h => h.rd⟩
theorem Rdb.nil {F0 : List Nat} {w0 : World} {ps : List As} (n : Nat) : Rdb F0 w0 ⟨none, 0, n⟩ ps 1 [] := ⟨fun h => ⟨rfl, fun i hi => by simp at hi⟩⟩

/-- a slice of the world at the start -/
theorem Rdb.start {w0 : World} {s : Sl} {ps : List As} {sz : Nat} {cs : List Value} (h : Rd w0 sz s cs) : Rdb [] w0 s ps sz cs := ⟨fun k => h.keep k.mod (by simp)⟩

/-- a part of a slice that can be read -/
theorem Rd.cut {w : World} {sz n m : Nat} {s : Sl} {cs : List Value} (h : Rd w sz s cs) (hsz : 0 < sz) (hm : m ≤ s.len) (hn : n ≤ m) (hc : s.len ≤ s.cap) (c' : Nat) : Rd w sz ⟨cutA s.a s.cap n sz, m - n, c'⟩ ((cs.drop (n * sz)).take ((m - n) * sz)) := by
  have hl := h.1
  have hms : m * sz ≤ s.len * sz := Nat.mul_le_mul_right _ hm
  have hns : (m - n) * sz = m * sz - n * sz := Nat.sub_mul _ _ _
  have hnm : n * sz ≤ m * sz := Nat.mul_le_mul_right _ hn
  refine ⟨by rw [List.length_take, List.length_drop, hl]; show _ = (m - n) * sz; omega, fun i hi => ?_⟩
  rw [List.length_take, List.length_drop, hl] at hi
  have hne : ¬ s.cap = n := by
    intro e
    have : m - n = 0 := by omega
    rw [this] at hi
    simp at hi
  obtain ⟨a, ha, hcell⟩ := h.2 (n * sz + i) (by omega)
  refine ⟨a.add (n * sz), ?_, ?_⟩
  · show cutA s.a s.cap n sz = _
    unfold cutA
    rw [if_neg hne, ha]
    rfl
  · rw [add_add, hcell, List.getElem?_take, if_pos (by omega), List.getElem?_drop]

/-- a literal row: what stands at o -/
class GetL (l : List Value) (o : Nat) (v : outParam Value) : Prop where
  get : l[o]? = some v
instance GetL.z {v : Value} {l : List Value} : GetL (v :: l) 0 v := ⟨rfl⟩
instance GetL.s {v u : Value} {l : List Value} {n : Nat} [i : GetL l n v] : GetL (u :: l) (n + 1) v := ⟨by simpa using i.get⟩
/-- a literal row, turned at o -/
class SetL (l : List Value) (o : Nat) (v : Value) (l' : outParam (List Value)) : Prop where
  set : l.set o v = l'
  lt : o < l.length
instance SetL.z {v u : Value} {l : List Value} : SetL (u :: l) 0 v (v :: l) := ⟨rfl, by simp⟩
instance SetL.s {v u : Value} {l l' : List Value} {n : Nat} [i : SetL l n v l'] : SetL (u :: l) (n + 1) v (u :: l') := ⟨by simp [i.set], by have := i.lt; simp; omega⟩

section
variable {F0 : List Nat} {w0 w : World} {ps qs rest : List As} {b o : Nat} {l l' : List Value}

theorem St.sub [i : Sub ps qs] (h : St F0 w0 w ps) : St F0 w0 w qs := i.sub h
theorem St.toB (b : Nat) [i : PkB b ps l rest] (h : St F0 w0 w ps) : St F0 w0 w (blkA b l :: rest) := i.pk h
theorem St.toO (s : Sl) {sz : Nat} {cs : List Value} [i : PkO s ps sz cs rest] (h : St F0 w0 w ps) : St F0 w0 w (ownA sz s cs :: rest) := i.pk h
theorem St.toA (p : As) [i : PkA p ps rest] (h : St F0 w0 w ps) : St F0 w0 w (p :: rest) := i.pk h
theorem St.rdb (s : Sl) {sz : Nat} {cs : List Value} [i : Rdb F0 w0 s ps sz cs] (h : St F0 w0 w ps) : Rd w sz s cs := i.rd h

/-! ### 2. fields -/

theorem St.fI {k : IntKind} {n : Int} {K : Int → Prop} (h : St F0 w0 w ps) [PkB b ps l rest] [g : GetL l o (.int k n)] (hk : K n) : ldI k w ⟨b, o, none⟩ K := (h.toB b).blk.ldI g.get hk
theorem St.fB {n : Bool} {K : Bool → Prop} (h : St F0 w0 w ps) [PkB b ps l rest] [g : GetL l o (.bool n)] (hk : K n) : ldB w ⟨b, o, none⟩ K := (h.toB b).blk.ldB g.get hk
theorem St.fP {n : Option Addr} {K : Option Addr → Prop} (h : St F0 w0 w ps) [PkB b ps l rest] [g : GetL l o (.pointer n)] (hk : K n) : ldP w ⟨b, o, none⟩ K := (h.toB b).blk.ldP g.get hk
theorem St.fL {a : Option Addr} {n c : Nat} {K : Sl → Prop} (h : St F0 w0 w ps) [PkB b ps l rest] [g : GetL l o (.slice a n c)] (hk : K ⟨a, n, c⟩) : ldL w ⟨b, o, none⟩ K := (h.toB b).blk.ldL (n := ⟨a, n, c⟩) g.get hk
theorem St.fM {n : Option Nat} {K : Option Nat → Prop} (h : St F0 w0 w ps) [PkB b ps l rest] [g : GetL l o (.map n)] (hk : K n) : ldM w ⟨b, o, none⟩ K := (h.toB b).blk.ldM g.get hk
theorem St.fS {n : ByteArray} {K : ByteArray → Prop} (h : St F0 w0 w ps) [PkB b ps l rest] [g : GetL l o (.string n)] (hk : K n) : ldS w ⟨b, o, none⟩ K := (h.toB b).blk.ldS g.get hk

/-- a field is turned -/
theorem St.fst {v : Value} {K : World → Prop} (h : St F0 w0 w ps) [PkB b ps l rest] [g : SetL l o v l'] (hs : storable v) (hk : ∀ w', St F0 w0 w' (blkA b l' :: rest) → K w') : Go.Proofs.Ythdmmmfgjmmelaa.st w ⟨b, o, none⟩ v K :=
  (h.toB b).st g.lt hs fun w' h => hk w' (by rw [g.set] at h; exact h)

/-! ### 3. rows of numbers -/

abbrev ivs (k : IntKind) (l : List Int) : List Value := l.map (Value.int k)
theorem ivs_length (k : IntKind) (l : List Int) : (ivs k l).length = l.length := by simp [ivs]
theorem ivs_get {k : IntKind} {l : List Int} {i : Nat} (h : i < l.length) : (ivs k l)[i]? = some (.int k (l.getD i 0)) := by
  simp [ivs, h, List.getD, List.getElem?_eq_getElem h]
theorem ivs_set (k : IntKind) (l : List Int) (i : Nat) (v : Int) : (ivs k l).set i (.int k v) = ivs k (l.set i v) := by
  unfold ivs; rw [List.map_set]
theorem ivs_storable {k : IntKind} {l : List Int} : ∀ v ∈ (⟨ivs k l⟩ : Array Value), storable v := by
  intro v hv
  have hv : v ∈ ivs k l := by simpa using hv
  obtain ⟨n, _, rfl⟩ := List.mem_map.1 hv
  trivial
theorem ivs_app (k : IntKind) (l m : List Int) : ivs k l ++ ivs k m = ivs k (l ++ m) := by simp [ivs]
theorem ivs_take (k : IntKind) (l : List Int) (n : Nat) : (ivs k l).take n = ivs k (l.take n) := by simp [ivs, List.map_take]
theorem ivs_drop (k : IntKind) (l : List Int) (n : Nat) : (ivs k l).drop n = ivs k (l.drop n) := by simp [ivs, List.map_drop]
theorem ivs_rep (k : IntKind) (n : Nat) (v : Int) : List.replicate n (Value.int k v) = ivs k (List.replicate n v) := by simp [ivs]
theorem ivs_inj {k : IntKind} {l m : List Int} (h : ivs k l = ivs k m) : l = m := by
  unfold ivs at h
  exact (List.map_inj_right (fun a b h => by injection h)).1 h

/-- a number of a row that can be read -/
theorem Rd.at {k : IntKind} {s : Sl} {zs : List Int} {i : Int} {K : Int → Prop} (h : Rd w 1 s (ivs k zs)) (j : Nat) (hi : i = j) (hj : j < zs.length) (hk : K (zs.getD j 0)) : ixS s.a s.len i 1 fun a => Go.Proofs.Ythdmmmfgjmmelaa.ldI k w a K := by
  subst hi
  have hl := h.1
  rw [ivs_length] at hl
  refine h.ix (by decide) (by omega) (by omega) fun a ha => ?_
  rw [show ((j : Int)).toNat * 1 = j by omega]
  exact h.ldI ha (ivs_get hj) hk

theorem St.lx {k : IntKind} {s : Sl} {zs : List Int} {i : Int} {K : Int → Prop} (h : St F0 w0 w ps) [Rdb F0 w0 s ps 1 (ivs k zs)] (j : Nat) (hi : i = j) (hj : j < zs.length) (hk : K (zs.getD j 0)) : ixS s.a s.len i 1 fun a => Go.Proofs.Ythdmmmfgjmmelaa.ldI k w a K :=
  (h.rdb s).at j hi hj hk

/-- a number of a row of one's own is turned -/
theorem St.sx {k : IntKind} {s : Sl} {zs : List Int} {i v : Int} {K : World → Prop} (h : St F0 w0 w ps) [PkO s ps 1 (ivs k zs) rest] (j : Nat) (hi : i = j) (hj : j < zs.length) (hk : ∀ w', St F0 w0 w' (ownA 1 s (ivs k (zs.set j v)) :: rest) → K w') : ixS s.a s.len i 1 fun a => Go.Proofs.Ythdmmmfgjmmelaa.st w a (.int k v) K := by
  subst hi
  have h := h.toO s
  have hr := h.ord
  have hl := hr.1
  rw [ivs_length] at hl
  refine hr.ix (by decide) (by omega) (by omega) fun a ha => ?_
  rw [show ((j : Int)).toNat * 1 = j by omega]
  refine h.setO ha (by rw [ivs_length]; exact hj) trivial fun w h => hk w ?_
  rw [ivs_set] at h
  exact h

theorem ixA_b' {b o n sz : Nat} {i : Int} {K : Addr → Prop} (h0 : 0 ≤ i) (h1 : i < (n : Int)) (hk : K ⟨b, o + i.toNat * sz, none⟩) : ixA ⟨b, o, none⟩ n i sz K := by
  unfold ixA
  rw [add_mk]
  exact ⟨⟨h0, h1⟩, hk⟩

/-- a number of a block of numbers -/
theorem St.la {k : IntKind} {n : Nat} {zs : List Int} {i : Int} {K : Int → Prop} (h : St F0 w0 w ps) [PkB b ps (ivs k zs) rest] (j : Nat) (hi : i = j) (hn : zs.length = n) (hj : j < n) (hk : K (zs.getD j 0)) : ixA ⟨b, 0, none⟩ n i 1 fun a => Go.Proofs.Ythdmmmfgjmmelaa.ldI k w a K := by
  subst hi
  refine ixA_b' (by omega) (by omega) ?_
  refine (h.toB b).blk.ldI ?_ hk
  rw [show 0 + ((j : Int)).toNat * 1 = j by omega]
  exact ivs_get (by omega)

theorem St.sa {k : IntKind} {n : Nat} {zs : List Int} {i v : Int} {K : World → Prop} (h : St F0 w0 w ps) [PkB b ps (ivs k zs) rest] (j : Nat) (hi : i = j) (hn : zs.length = n) (hj : j < n) (hk : ∀ w', St F0 w0 w' (blkA b (ivs k (zs.set j v)) :: rest) → K w') : ixA ⟨b, 0, none⟩ n i 1 fun a => Go.Proofs.Ythdmmmfgjmmelaa.st w a (.int k v) K := by
  subst hi
  refine ixA_b' (by omega) (by omega) ?_
  rw [show 0 + ((j : Int)).toNat * 1 = j by omega]
  refine (h.toB b).st (by rw [ivs_length]; omega) trivial fun w h => hk w ?_
  rw [ivs_set] at h
  exact h

/-- a whole block is read, laid -/
theorem St.lA {n : Nat} {K : Array Value → Prop} (h : St F0 w0 w ps) [PkB b ps l rest] (hl : l.length = n) (hk : K ⟨l⟩) : ldA w ⟨b, 0, none⟩ n K :=
  (h.toB b).blk.ldA (cs := ⟨l⟩) hl (fun j hj => by rw [Nat.zero_add]; simp) hk
theorem St.sA {n : Nat} {K : World → Prop} (h : St F0 w0 w ps) [PkB b ps l rest] (hl : l.length = n) (hl' : l'.length = n) (hs : ∀ v ∈ (⟨l'⟩ : Array Value), storable v) (hk : ∀ w', St F0 w0 w' (blkA b l' :: rest) → K w') : Go.Proofs.Ythdmmmfgjmmelaa.stA w ⟨b, 0, none⟩ ⟨l'⟩ K := by
  refine (h.toB b).stA (o := 0) (by show 0 + l'.length ≤ l.length; omega) hs fun w' h => hk w' ?_
  have e : l.take 0 ++ (⟨l'⟩ : Array Value).toList ++ l.drop (0 + (⟨l'⟩ : Array Value).size) = l' := by
    rw [List.take_zero, List.nil_append, List.drop_eq_nil_of_le (by show l.length ≤ 0 + l'.length; omega), List.append_nil]
  rwa [e] at h

end

end Go.Proofs.Ythdmmmfgjmmelaa
