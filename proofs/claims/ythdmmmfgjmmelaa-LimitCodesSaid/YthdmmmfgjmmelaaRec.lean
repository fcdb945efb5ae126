/- Rows of records, of so many cells each: read, put behind, cloned, cut. Own work. -/
import Derived.Test.YthdmmmfgjmmelaaPush
namespace Go.Proofs.Ythdmmmfgjmmelaa
open Go Go.Proofs
set_option linter.unusedVariables false
set_option linter.unusedSimpArgs false
attribute [local irreducible] apK cpK mkK br

/-- records as cells -/
class Rec {α : Type} (f : α → List Value) (sz : outParam Nat) : Prop where
  len : ∀ x, (f x).length = sz
  sto : ∀ x, ∀ v ∈ f x, storable v
  pos : 0 < sz

/-- a type of sz cells -/
class EltR (P : Program) (e : TypeId) (sz : outParam Nat) (z : outParam (List Value)) : Prop where
  info : ∃ i, P.info? e = some i ∧ i.size = sz ∧ i.bytes ≠ 0 ∧ i.bytes ≤ 1024
  zc : Go.Proofs.Ythdmmmfgjmmelaa.zc P e = ⟨z⟩
  len : z.length = sz
  pos : 0 < sz

section
variable {α : Type} {f : α → List Value} {sz : Nat}
theorem rws_cons (x : α) (L : List α) : (x :: L).flatMap f = f x ++ L.flatMap f := rfl
theorem rws_append (L M : List α) : (L ++ M).flatMap f = L.flatMap f ++ M.flatMap f := List.flatMap_append
theorem rws_one (x : α) : [x].flatMap f = f x := by simp
theorem rws_len [i : Rec f sz] (L : List α) : (L.flatMap f).length = L.length * sz := by
  induction L with
  | nil => simp
  | cons x L ih => rw [rws_cons, List.length_append, ih, i.len, List.length_cons, Nat.add_mul]; omega
theorem rws_sto [i : Rec f sz] (L : List α) : ∀ v ∈ (⟨L.flatMap f⟩ : Array Value), storable v := by
  intro v hv
  have hv : v ∈ L.flatMap f := by simpa using hv
  obtain ⟨x, _, hx⟩ := List.mem_flatMap.1 hv
  exact i.sto x v hx
theorem rws_get [i : Rec f sz] : ∀ {L : List α} {j o : Nat} (hj : j < L.length), o < sz → (L.flatMap f)[j * sz + o]? = (f L[j])[o]? := by
  intro L
  induction L with
  | nil => intro j o hj; simp at hj
  | cons x L ih =>
    intro j o hj ho
    rw [rws_cons]
    cases j with
    | zero => rw [Nat.zero_mul, Nat.zero_add, List.getElem?_append_left (by rw [i.len]; exact ho)]; rfl
    | succ j =>
      rw [List.getElem?_append_right (by rw [i.len, Nat.add_mul]; omega), i.len, show (j + 1) * sz + o - sz = j * sz + o by rw [Nat.add_mul]; omega, ih (by simpa using hj) ho]
      rfl
theorem rws_take [i : Rec f sz] : ∀ (L : List α) (n : Nat), (L.flatMap f).take (n * sz) = (L.take n).flatMap f := by
  intro L
  induction L with
  | nil => intro n; simp
  | cons x L ih =>
    intro n
    cases n with
    | zero => simp
    | succ n =>
      rw [List.take_succ_cons, rws_cons, rws_cons, ← ih n, List.take_append, List.take_of_length_le (by rw [i.len, Nat.add_mul]; omega), i.len, show (n + 1) * sz - sz = n * sz by rw [Nat.add_mul]; omega]
theorem rws_drop [i : Rec f sz] : ∀ (L : List α) (n : Nat), (L.flatMap f).drop (n * sz) = (L.drop n).flatMap f := by
  intro L
  induction L with
  | nil => intro n; simp
  | cons x L ih =>
    intro n
    cases n with
    | zero => simp
    | succ n =>
      rw [List.drop_succ_cons, rws_cons, ← ih n, List.drop_append, List.drop_eq_nil_of_le (by rw [i.len, Nat.add_mul]; omega), i.len, show (n + 1) * sz - sz = n * sz by rw [Nat.add_mul]; omega, List.nil_append]
end

section
variable {F0 : List Nat} {w0 w : World} {ps rest : List As} {P : Program} {e : TypeId} {α : Type} {f : α → List Value} {sz : Nat} {z : List Value} {s : Sl} {L : List α}

/-- a cell of a record -/
theorem Rd.rcell [i : Rec f sz] (h : Rd w sz s (L.flatMap f)) {a0 : Addr} (ha : s.a = some a0) {j o : Nat} (hj : j < L.length) (ho : o < sz) : w.cell? ((a0.add (j * sz)).add o) = (f L[j])[o]? := by
  have hb : (j + 1) * sz ≤ L.length * sz := Nat.mul_le_mul_right _ hj
  rw [Nat.add_mul, Nat.one_mul] at hb
  rw [add_add, h.cell ha (by rw [rws_len]; omega), rws_get hj ho]
/-- the place of a record -/
theorem St.rix [i : Rec f sz] (h : St F0 w0 w ps) [Rdb F0 w0 s ps sz (L.flatMap f)] {n : Int} {K : Addr → Prop} (j : Nat) (hi : n = j) (hj : j < L.length) (hk : ∀ a0, s.a = some a0 → K (a0.add (j * sz))) : ixS s.a s.len n sz K := by
  subst hi
  have hr := h.rdb s
  have hl := hr.1
  rw [rws_len] at hl
  have := Nat.eq_of_mul_eq_mul_right i.pos hl
  refine hr.ix i.pos (by omega) (by omega) fun a ha => ?_
  rw [Int.toNat_natCast]
  exact hk a ha
theorem St.rlen [i : Rec f sz] (h : St F0 w0 w ps) [Rdb F0 w0 s ps sz (L.flatMap f)] : L.length = s.len := by
  have hl := (h.rdb s).1
  rw [rws_len] at hl
  exact Nat.eq_of_mul_eq_mul_right i.pos hl
theorem Rd.rI {k : IntKind} [i : Rec f sz] (h : Rd w sz s (L.flatMap f)) {a0 : Addr} {v : Int} {K : Int → Prop} (ha : s.a = some a0) {j o : Nat} (hj : j < L.length) (ho : o < sz) (hv : (f L[j])[o]? = some (.int k v)) (hk : K v) : Go.Proofs.Ythdmmmfgjmmelaa.ldI k w ((a0.add (j * sz)).add o) K :=
  ldI_c (by rw [h.rcell ha hj ho]; exact hv) hk
theorem Rd.rL [i : Rec f sz] (h : Rd w sz s (L.flatMap f)) {a0 : Addr} {v : Sl} {K : Sl → Prop} (ha : s.a = some a0) {j o : Nat} (hj : j < L.length) (ho : o < sz) (hv : (f L[j])[o]? = some (.slice v.a v.len v.cap)) (hk : K v) : Go.Proofs.Ythdmmmfgjmmelaa.ldL w ((a0.add (j * sz)).add o) K :=
  ldL_c (by rw [h.rcell ha hj ho]; exact hv) hk
/-- a whole record -/
theorem Rd.rA [i : Rec f sz] (h : Rd w sz s (L.flatMap f)) {a0 : Addr} {K : Array Value → Prop} (ha : s.a = some a0) {j : Nat} (hj : j < L.length) (hk : K ⟨f L[j]⟩) : ldA w (a0.add (j * sz)) sz K := by
  refine ⟨⟨f L[j]⟩, i.len _, fun o ho => ?_, hk⟩
  rw [h.rcell ha hj ho]
  simp
theorem St.lr [i : Rec f sz] (h : St F0 w0 w ps) [Rdb F0 w0 s ps sz (L.flatMap f)] {n : Int} {K : Array Value → Prop} (j : Nat) (hi : n = j) (hj : j < L.length) (hk : K ⟨f L[j]⟩) : ixS s.a s.len n sz fun a => ldA w a sz K :=
  h.rix j hi hj fun a0 ha => (h.rdb s).rA ha hj hk
theorem St.lrI {k : IntKind} [i : Rec f sz] (h : St F0 w0 w ps) [Rdb F0 w0 s ps sz (L.flatMap f)] {n v : Int} {o : Nat} {K : Int → Prop} (j : Nat) (hi : n = j) (hj : j < L.length) (ho : o < sz) (hv : (f L[j])[o]? = some (.int k v)) (hk : K v) : ixS s.a s.len n sz fun a => Go.Proofs.Ythdmmmfgjmmelaa.ldI k w (a.add o) K :=
  h.rix j hi hj fun a0 ha => (h.rdb s).rI ha hj ho hv hk
theorem St.lrL [i : Rec f sz] (h : St F0 w0 w ps) [Rdb F0 w0 s ps sz (L.flatMap f)] {n : Int} {v : Sl} {o : Nat} {K : Sl → Prop} (j : Nat) (hi : n = j) (hj : j < L.length) (ho : o < sz) (hv : (f L[j])[o]? = some (.slice v.a v.len v.cap)) (hk : K v) : ixS s.a s.len n sz fun a => Go.Proofs.Ythdmmmfgjmmelaa.ldL w (a.add o) K :=
  h.rix j hi hj fun a0 ha => (h.rdb s).rL ha hj ho hv hk

theorem rec_room {b n : Nat} (hb : b ≤ 1024) (hn : n ≤ 1000000000) : (2 * n + 1024) * b ≤ 281474976710656 := by
  refine Nat.le_trans (Nat.mul_le_mul_left _ hb) ?_
  omega

/-- one record behind -/
theorem St.pushR [i : Rec f sz] [he : EltR P e sz z] (h : St F0 w0 w ps) [PkO s ps sz (L.flatMap f) rest] {x : α} {c : Array Value} {K : Sl → World → Prop} (hlen : L.length ≤ 999999999) (hc : c = ⟨f x⟩)
    (hk : ∀ s' w', s'.len = s.len + 1 → St F0 w0 w' (ownA sz s' ((L ++ [x]).flatMap f) :: rest) → K s' w') :
    lt (⟨World.heapSize w, 0, none⟩ : Addr) fun a => lt (World.alloc w (.cells c e)) fun w1 => rdO w1 (some a) (1 * sz) fun c => apK P e w1 s.a s.len s.cap 1 c K := by
  subst hc
  refine (h.toO s).new fun nb w h => ?_
  have h : St F0 w0 w (blkA nb (f x) :: ownA sz s (L.flatMap f) :: rest) := h
  refine h.rdB (by rw [i.len, Nat.one_mul]) ?_
  have h := h.drop
  have hl := h.len
  rw [rws_len] at hl
  have hl := Nat.eq_of_mul_eq_mul_right i.pos hl
  obtain ⟨t, h1, h2, h3, h4⟩ := he.info
  refine St.append (i := t) (sz := sz) (m := 1) h1 h2 i.pos (by rw [he.zc]; exact he.len) h3 (rec_room h4 (by omega)) h (by show (f x).length = _; rw [i.len, Nat.one_mul]) (fun v hv => i.sto x v (by simpa using hv)) fun s' w' h hl' => hk s' w' hl' (by rw [rws_append, rws_one]; exact h)

/-- a row behind -/
theorem St.appR [i : Rec f sz] [he : EltR P e sz z] (h : St F0 w0 w ps) [PkO s ps sz (L.flatMap f) rest] {s2 : Sl} {M : List α} [Rdb F0 w0 s2 ps sz (M.flatMap f)] {K : Sl → World → Prop} (hlen : L.length + M.length ≤ 999999999)
    (hk : ∀ s' w', s'.len = s.len + M.length → St F0 w0 w' (ownA sz s' ((L ++ M).flatMap f) :: rest) → K s' w') :
    rdO w s2.a (s2.len * sz) fun c => apK P e w s.a s.len s.cap s2.len c K := by
  have hr := h.rdb s2
  have hl := hr.1
  refine hr.rdO hl.symm ?_
  rw [rws_len] at hl
  have hl := Nat.eq_of_mul_eq_mul_right i.pos hl
  have h := h.toO s
  have hl2 := h.len
  rw [rws_len] at hl2
  have hl2 := Nat.eq_of_mul_eq_mul_right i.pos hl2
  obtain ⟨t, h1, h2, h3, h4⟩ := he.info
  refine St.append (i := t) (sz := sz) (m := s2.len) h1 h2 i.pos (by rw [he.zc]; exact he.len) h3 (rec_room h4 (by omega)) h (by show (M.flatMap f).length = _; rw [rws_len, hl]) (rws_sto M) fun s' w' h hl' => hk s' w' (by omega) (by rw [rws_append]; exact h)

theorem St.ownBR {nb n : Nat} {l : List Value} (h : St F0 w0 w (blkA nb l :: ps)) (hn : l.length = n * sz) : St F0 w0 w (ownA sz ⟨some ⟨nb, 0, none⟩, n, n⟩ l :: ps) := by
  refine h.mp ?_
  rintro F ⟨hb, rfl⟩
  exact Or.inr ⟨nb, [], rfl, by simpa using hb, hn, by simpa using hn, rfl⟩

/-- append([]T{}, row...) -/
theorem St.cloneR [i : Rec f sz] [he : EltR P e sz z] (h : St F0 w0 w ps) {s2 : Sl} {M : List α} [Rdb F0 w0 s2 ps sz (M.flatMap f)] {K : Sl → World → Prop} (hlen : M.length ≤ 999999999)
    (hk : ∀ s' w', s'.len = M.length → St F0 w0 w' (ownA sz s' (M.flatMap f) :: ps) → K s' w') :
    lt (⟨World.heapSize w, 0, none⟩ : Addr) fun a => lt (World.alloc w (.cells ⟨[]⟩ e)) fun w1 => rdO w1 s2.a (s2.len * sz) fun c => apK P e w1 (some a) 0 0 s2.len c K := by
  refine h.new fun nb w h => ?_
  have h : St F0 w0 w (blkA nb [] :: ps) := h
  have h : St F0 w0 w (ownA sz ⟨some ⟨nb, 0, none⟩, 0, 0⟩ (([] : List α).flatMap f) :: ps) := h.ownBR (n := 0) (by simp)
  exact St.appR (s := ⟨some ⟨nb, 0, none⟩, 0, 0⟩) (L := ([] : List α)) h (by simpa using hlen) fun s' w' h1 h => hk s' w' (by simpa using h1) (by simpa using h)

/-- a row that can be read and has no block is none -/
theorem St.isnil [i : Rec f sz] (h : St F0 w0 w ps) [Rdb F0 w0 s ps sz (L.flatMap f)] (hn : s.a = none) : L = [] := by
  have hr := h.rdb s
  cases L with
  | nil => rfl
  | cons x L =>
    exfalso
    obtain ⟨a, ha, _⟩ := hr.2 0 (by rw [rws_len, List.length_cons, Nat.add_mul]; have := i.pos; omega)
    rw [hn] at ha
    cases ha

/-- a part of a row of records -/
theorem St.cutRR [i : Rec f sz] (h : St F0 w0 w ps) (s : Sl) [hr : Rdb F0 w0 s ps sz (L.flatMap f)] (n m c' : Nat) (hm : m ≤ s.len) (hn : n ≤ m) (hc : s.len ≤ s.cap) : Rdb F0 w0 ⟨cutA s.a s.cap n sz, m - n, c'⟩ ps sz (((L.drop n).take (m - n)).flatMap f) := ⟨fun h => by
  have := (hr.rd h).cut (n := n) (m := m) i.pos hm hn hc c'
  rw [rws_drop, rws_take] at this
  exact this⟩

/-- a record in a block of its own, turned whole -/
theorem St.setR [i : Rec f sz] {b : Nat} {l : List Value} {x : α} {K : World → Prop} (h : St F0 w0 w (blkA b l :: ps)) (hl : l.length = sz) (hk : ∀ w', St F0 w0 w' (blkA b (f x) :: ps) → K w') : Go.Proofs.Ythdmmmfgjmmelaa.stA w ⟨b, 0, none⟩ ⟨f x⟩ K :=
  h.sA (b := b) hl (i.len x) (fun v hv => i.sto x v (by simpa using hv)) hk
end
end Go.Proofs.Ythdmmmfgjmmelaa
