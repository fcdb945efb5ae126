/- Rows of one's own grow: numbers put behind, rows put behind, new rows. Own work. -/
import Derived.Test.YthdmmmfgjmmelaaPick
import Derived.Test.YthdmmmfgjmmelaaBitD
namespace Go.Proofs.Ythdmmmfgjmmelaa
open Go Go.Proofs
set_option linter.unusedVariables false
set_option linter.unusedSimpArgs false
attribute [local irreducible] apK cpK mkK

/-- the thing f b x is among ps -/
class PkF {α : Type} (f : Nat → α → As) (b : Nat) (ps : List As) (x : outParam α) (rest : outParam (List As)) : Prop where
  pk : ∀ {F0 : List Nat} {w0 w : World}, St F0 w0 w ps → St F0 w0 w (f b x :: rest)
instance PkF.tl {α : Type} {f : Nat → α → As} {b : Nat} {x : α} {q : As} {ps rest : List As} [i : PkF f b ps x rest] : PkF f b (q :: ps) x (q :: rest) := ⟨fun h => (h.tail fun _ _ _ h => i.pk h).at1⟩
instance PkF.hd {α : Type} {f : Nat → α → As} {b : Nat} {x : α} {ps : List As} : PkF f b (f b x :: ps) x ps := ⟨id⟩
theorem St.toF {α : Type} (f : Nat → α → As) (b : Nat) {F0 : List Nat} {w0 w : World} {ps rest : List As} {x : α} [i : PkF f b ps x rest] (h : St F0 w0 w ps) : St F0 w0 w (f b x :: rest) := i.pk h

theorem eqA_i {k : IntKind} {n : Nat} {xs ys : List Int} {K : Bool → Prop} (h1 : xs.length = n) (h2 : ys.length = n) (hk : K (xs == ys)) : eqA k n ⟨ivs k xs⟩ ⟨ivs k ys⟩ K := ⟨xs, ys, rfl, rfl, h1, h2, hk⟩
theorem eqA_s {k : IntKind} {n : Nat} {xs : List Int} {K : Bool → Prop} (h1 : xs.length = n) (hk : K true) : eqA k n ⟨ivs k xs⟩ ⟨ivs k xs⟩ K := eqA_i h1 h1 (by simpa using hk)
theorem br_t1 {A B : Prop} (h : A) : br true A B := h
theorem br_f1 {A B : Prop} (h : B) : br false A B := h
theorem br_is {b : Bool} {A B : Prop} (hb : b = true) (h : A) : br b A B := by subst hb; exact h
theorem br_no {b : Bool} {A B : Prop} (hb : b = false) (h : B) : br b A B := by subst hb; exact h
theorem bd_i {i : Int} {y n : Nat} {K : Nat → Prop} (hn : i = n) (h : n ≤ y) (hk : K n) : bd i y K := by subst hn; exact ⟨⟨by omega, by omega⟩, by rw [Int.toNat_natCast]; exact hk⟩

theorem new_asL {F0 : List Nat} {w0 w : World} {ps : List As} {nb : Nat} {l m : List Value} (e : l = m) (h : St F0 w0 w (blkA nb (⟨l⟩ : Array Value).toList :: ps)) : St F0 w0 w (blkA nb m :: ps) := by
  subst e; exact h

/-- a type of one cell -/
class Elt (P : Program) (e : TypeId) (z : outParam Value) : Prop where
  info : ∃ i, P.info? e = some i ∧ i.size = 1 ∧ i.bytes ≠ 0 ∧ i.bytes ≤ 16
  zc : Go.Proofs.Ythdmmmfgjmmelaa.zc P e = #[z]
theorem Elt.bytes {P : Program} {e : TypeId} {z : Value} [h : Elt P e z] : P.bytesOf e ≤ 16 := by
  obtain ⟨i, h1, _, _, h4⟩ := h.info
  simp [Program.bytesOf, h1, h4]
instance elt_u8 : Elt Try.prog 5 (.int .u8 0) := ⟨⟨Try.t5, by kernel_rfl, rfl, by decide, by decide⟩, by kernel_rfl⟩
instance elt_u32 : Elt Try.prog 165 (.int .u32 0) := ⟨⟨Try.t165, by kernel_rfl, rfl, by decide, by decide⟩, by kernel_rfl⟩
instance elt_int : Elt Try.prog 3 (.int .i64 0) := ⟨⟨Try.t3, by kernel_rfl, rfl, by decide, by decide⟩, by kernel_rfl⟩
instance elt_bool : Elt Try.prog 4 (.bool false) := ⟨⟨Try.t4, by kernel_rfl, rfl, by decide, by decide⟩, by kernel_rfl⟩

section
variable {F0 : List Nat} {w0 w : World} {ps rest : List As} {P : Program} {e : TypeId} {z : Value} {s : Sl} {cs : List Value}

/-- one cell behind -/
theorem St.push {v : Value} {K : Sl → World → Prop} [he : Elt P e z] (h : St F0 w0 w ps) [PkO s ps 1 cs rest] (hlen : cs.length ≤ 1099511627776) (hv : storable v)
    (hk : ∀ s' w', St F0 w0 w' (ownA 1 s' (cs ++ [v]) :: rest) → K s' w') :
    lt (⟨World.heapSize w, 0, none⟩ : Addr) fun a => lt (World.alloc w (.cells ⟨[v]⟩ e)) fun w1 => rdO w1 (some a) (1 * 1) fun c => apK P e w1 s.a s.len s.cap 1 c K := by
  refine (h.toO s).new fun nb w h => ?_
  refine h.rdB rfl ?_
  obtain ⟨i, h1, h2, h3, h4⟩ := he.info
  exact h.drop.append1 h1 h2 he.zc h3 h4 hlen rfl hv hk

theorem St.pushI {k : IntKind} {zs : List Int} {x : Int} {K : Sl → World → Prop} [he : Elt P e z] (h : St F0 w0 w ps) [PkO s ps 1 (ivs k zs) rest] (hlen : zs.length ≤ 1099511627776)
    (hk : ∀ s' w', St F0 w0 w' (ownA 1 s' (ivs k (zs ++ [x])) :: rest) → K s' w') :
    lt (⟨World.heapSize w, 0, none⟩ : Addr) fun a => lt (World.alloc w (.cells ⟨[.int k x]⟩ e)) fun w1 => rdO w1 (some a) (1 * 1) fun c => apK P e w1 s.a s.len s.cap 1 c K :=
  h.push (by rw [ivs_length]; exact hlen) trivial fun s' w h => hk s' w (by rw [← ivs_app]; exact h)

/-- a row behind -/
theorem St.app {n : Nat} {cs2 : List Value} {c : Array Value} {K : Sl → World → Prop} [he : Elt P e z] (h : St F0 w0 w ps) [PkO s ps 1 cs rest] (hc : c = ⟨cs2⟩) (hn : cs2.length = n) (hlen : cs.length + n ≤ 1099511627776) (hv : ∀ v ∈ (⟨cs2⟩ : Array Value), storable v)
    (hk : ∀ s' w', St F0 w0 w' (ownA 1 s' (cs ++ cs2) :: rest) → K s' w') : apK P e w s.a s.len s.cap n c K := by
  subst hc
  obtain ⟨i, h1, h2, h3, h4⟩ := he.info
  have h := h.toO s
  have hl := h.len
  refine St.append (i := i) (sz := 1) (m := n) h1 h2 (by decide) (by rw [he.zc]; rfl) h3 ?_ h (by show cs2.length = n * 1; omega) hv (fun s' w' h _ => hk s' w' h)
  refine Nat.le_trans (Nat.mul_le_mul_left _ h4) ?_
  have hl2 : s.len + n ≤ 1099511627776 := by omega
  clear hk h
  generalize s.len + n = m at hl2
  omega

theorem St.appI {k : IntKind} {s2 : Sl} {zs ys : List Int} {K : Sl → World → Prop} [he : Elt P e z] (h : St F0 w0 w ps) [PkO s ps 1 (ivs k zs) rest] [Rdb F0 w0 s2 ps 1 (ivs k ys)] (hlen : zs.length + ys.length ≤ 1099511627776)
    (hk : ∀ s' w', St F0 w0 w' (ownA 1 s' (ivs k (zs ++ ys)) :: rest) → K s' w') : rdO w s2.a (s2.len * 1) fun c => apK P e w s.a s.len s.cap s2.len c K := by
  have hr := h.rdb s2
  have hl := hr.1
  rw [ivs_length] at hl
  refine hr.rdO (by rw [ivs_length]; omega) ?_
  exact h.app (cs := ivs k zs) (cs2 := ivs k ys) rfl (by rw [ivs_length]; omega) (by rw [ivs_length]; omega) ivs_storable fun s' w h => hk s' w (by rw [← ivs_app]; exact h)

/-- a block without cells is a row of one's own -/
theorem St.own0 {nb : Nat} (h : St F0 w0 w (blkA nb [] :: ps)) : St F0 w0 w (ownA 1 ⟨some ⟨nb, 0, none⟩, 0, 0⟩ [] :: ps) := by
  refine h.mp ?_
  rintro F ⟨hb, rfl⟩
  exact Or.inr ⟨nb, [], rfl, hb, rfl, rfl, rfl⟩

/-- a block is a row of one's own -/
theorem St.ownB {nb n : Nat} {l : List Value} (h : St F0 w0 w (blkA nb l :: ps)) (hn : l.length = n) : St F0 w0 w (ownA 1 ⟨some ⟨nb, 0, none⟩, n, n⟩ l :: ps) := by
  refine h.mp ?_
  rintro F ⟨hb, rfl⟩
  exact Or.inr ⟨nb, [], rfl, by simpa using hb, by simp [hn], by simp [hn], rfl⟩

/-- append([]T{}, row...) -/
theorem St.clone {k : IntKind} {s2 : Sl} {ys : List Int} {K : Sl → World → Prop} [he : Elt P e z] (h : St F0 w0 w ps) [Rdb F0 w0 s2 ps 1 (ivs k ys)] (hlen : ys.length ≤ 1099511627776)
    (hk : ∀ s' w', St F0 w0 w' (ownA 1 s' (ivs k ys) :: ps) → K s' w') :
    lt (⟨World.heapSize w, 0, none⟩ : Addr) fun a => lt (World.alloc w (.cells ⟨[]⟩ e)) fun w1 => rdO w1 s2.a (s2.len * 1) fun c => apK P e w1 (some a) 0 0 s2.len c K := by
  refine h.new fun nb w h => ?_
  have h := h.own0
  exact St.appI (s := ⟨some ⟨nb, 0, none⟩, 0, 0⟩) (zs := []) (k := k) (ys := ys) h (by simpa using hlen) fun s' w h => hk s' w h

/-- a new row of noughts -/
theorem St.make {n : Nat} {l c : Int} {K : Sl → World → Prop} [he : Elt P e z] (h : St F0 w0 w ps) (hl : l = n) (hc : c = n) (hn : n ≤ 1099511627776)
    (hk : ∀ s w', s.len = n → s.cap = n → St F0 w0 w' (ownA 1 s (List.replicate n z) :: ps) → K s w') : mkK P e w l c K :=
  St.make1 he.zc hl hc hn he.bytes h hk

theorem St.makeI {k : IntKind} {n : Nat} {l c : Int} {K : Sl → World → Prop} [he : Elt P e (.int k 0)] (h : St F0 w0 w ps) (hl : l = n) (hc : c = n) (hn : n ≤ 1099511627776)
    (hk : ∀ s w', s.len = n → s.cap = n → St F0 w0 w' (ownA 1 s (ivs k (List.replicate n 0)) :: ps) → K s w') : mkK P e w l c K :=
  h.make hl hc hn fun s w h1 h2 h => hk s w h1 h2 (by rw [← ivs_rep]; exact h)

/-- bytes as a text -/
theorem St.bt {s : Sl} {xs : List Int} {K : ByteArray → Prop} (h : St F0 w0 w ps) [Rdb F0 w0 s ps 1 (ivs .u8 xs)] (hx : ∀ x ∈ xs, 0 ≤ x ∧ x < 256) (hk : K ⟨⟨u8 xs⟩⟩) : btS w s.a s.len K :=
  (h.rdb s).btS hx hk

/-- a part of a row that can be read -/
theorem Rdb.cut {k : IntKind} {xs : List Int} (hr : Rdb F0 w0 s ps 1 (ivs k xs)) (n m c' : Nat) (hm : m ≤ s.len) (hn : n ≤ m) (hc : s.len ≤ s.cap) : Rdb F0 w0 ⟨cutA s.a s.cap n 1, m - n, c'⟩ ps 1 (ivs k ((xs.drop n).take (m - n))) := ⟨fun h => by
  have := (hr.rd h).cut (n := n) (m := m) (by decide) hm hn hc c'
  rw [Nat.mul_one, Nat.mul_one, ivs_drop, ivs_take] at this
  exact this⟩
theorem Rdb.cutAs {k : IntKind} {xs ys : List Int} (hr : Rdb F0 w0 s ps 1 (ivs k xs)) (n m c' : Nat) (hm : m ≤ s.len) (hn : n ≤ m) (hc : s.len ≤ s.cap) (e : (xs.drop n).take (m - n) = ys) : Rdb F0 w0 ⟨cutA s.a s.cap n 1, m - n, c'⟩ ps 1 (ivs k ys) := e ▸ hr.cut n m c' hm hn hc
theorem St.cutR {k : IntKind} {xs ys : List Int} (h : St F0 w0 w ps) (s : Sl) [hr : Rdb F0 w0 s ps 1 (ivs k xs)] (n m c' : Nat) (hm : m ≤ s.len) (hn : n ≤ m) (hc : s.len ≤ s.cap) (e : (xs.drop n).take (m - n) = ys) : Rdb F0 w0 ⟨cutA s.a s.cap n 1, m - n, c'⟩ ps 1 (ivs k ys) := hr.cutAs n m c' hm hn hc e

/-- constant bytes -/
theorem St.str {b n : Nat} {l : List Value} {K : World → Prop} (h : St F0 w0 w ps) [PkB b ps l rest] (hn : l.length = n) (hk : ∀ w', St F0 w0 w' (rdA 1 ⟨some ⟨b, 0, none⟩, n, n⟩ l :: rest) → K w') : mkStr w (some ⟨b, 0, none⟩) K :=
  mkStr_i (h.toB b) hn hk

end

end Go.Proofs.Ythdmmmfgjmmelaa
