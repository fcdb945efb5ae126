/- Memory as blocks that are known: what a step does to them. Own work. -/
import Derived.Test.YthdmmmfgjmmelaaVcJ
import Derived.Below
namespace Go.Proofs.Ythdmmmfgjmmelaa
open Go Go.Proofs
set_option linter.unusedVariables false
set_option linter.unusedSimpArgs false

/-! ### 1. words -/

/-- block b is a row of the cells l, none of them frozen -/
def Blk (w : World) (b : Nat) (l : List Value) : Prop := ∃ t, w.heap[b]? = some (.cells ⟨l⟩ t (0, 0))

/-- from w to w' only the blocks of F and new ones have turned -/
structure Mod (F : List Nat) (w w' : World) : Prop where
  os : w'.os = w.os
  tape : w'.tape = w.tape
  output : w'.output = w.output
  size : w.heap.size ≤ w'.heap.size
  frame : ∀ b, b < w.heap.size → b ∉ F → w'.heap[b]? = w.heap[b]?

theorem Mod.refl (F : List Nat) (w : World) : Mod F w w := ⟨rfl, rfl, rfl, Nat.le_refl _, fun _ _ _ => rfl⟩

theorem Mod.trans {F G : List Nat} {a b c : World} (h : Mod F a b) (k : Mod G b c) (hG : ∀ x ∈ G, x ∈ F ∨ a.heap.size ≤ x) : Mod F a c :=
  ⟨k.os.trans h.os, k.tape.trans h.tape, k.output.trans h.output, Nat.le_trans h.size k.size, fun x hx hF => by
    rw [k.frame x (Nat.lt_of_lt_of_le hx h.size) (fun hg => by rcases hG x hg with h1 | h1; exact hF h1; omega), h.frame x hx hF]⟩

theorem Mod.mono {F G : List Nat} {a b : World} (h : Mod F a b) (hG : ∀ x ∈ F, x ∈ G ∨ a.heap.size ≤ x) : Mod G a b :=
  ⟨h.os, h.tape, h.output, h.size, fun x hx hF => h.frame x hx fun hf => by rcases hG x hf with h1 | h1; exact hF h1; omega⟩

theorem Mod.below {F : List Nat} {n : Nat} {w w' : World} (h : Mod F w w') (hn : n ≤ w.heap.size) (hF : ∀ x ∈ F, n ≤ x) : Go.RowKit.Below n w w' :=
  ⟨h.os, h.tape, h.output, h.size, fun k hk => h.frame k (by omega) fun hm => by have := hF k hm; omega⟩

theorem Blk.lt {w : World} {b : Nat} {l : List Value} (h : Blk w b l) : b < w.heap.size := by
  obtain ⟨t, h⟩ := h
  exact (Array.getElem?_eq_some_iff.1 h).1

theorem Blk.keep {F : List Nat} {w w' : World} {b : Nat} {l : List Value} (h : Blk w b l) (m : Mod F w w') (hb : b ∉ F) : Blk w' b l := by
  have hl := h.lt
  obtain ⟨t, h⟩ := h
  exact ⟨t, by rw [m.frame b hl hb]; exact h⟩

theorem Blk.cell {w : World} {b : Nat} {l : List Value} (h : Blk w b l) (o : Nat) : w.cell? ⟨b, o, none⟩ = l[o]? := by
  obtain ⟨t, h⟩ := h
  simp [World.cell?, h]

theorem Blk.free {w : World} {b : Nat} {l : List Value} (h : Blk w b l) (o : Nat) : w.frozen? ⟨b, o, none⟩ = false := by
  obtain ⟨t, h⟩ := h
  simp [World.frozen?, h]

theorem Blk.set {w : World} {b : Nat} {l : List Value} (h : Blk w b l) (o : Nat) (v : Value) : Blk (w.setCell ⟨b, o, none⟩ v) b (l.set o v) := by
  obtain ⟨t, h⟩ := h
  refine ⟨t, ?_⟩
  simp only [World.setCell, Array.getElem?_modify, if_true, h, Option.map_some]
  simp

theorem Blk.shape {w : World} {b : Nat} {l : List Value} (h : Blk w b l) : ∃ t, w.shape? b = some (t, l.length) := by
  obtain ⟨t, h⟩ := h
  exact ⟨t, by simp [World.shape?, h]⟩

theorem Mod.setCell (w : World) (b o : Nat) (v : Value) : Mod [b] w (w.setCell ⟨b, o, none⟩ v) :=
  ⟨rfl, rfl, rfl, by simp, fun x hx hF => by
    simp only [World.setCell, Array.getElem?_modify]
    rw [if_neg]
    intro h
    exact hF (by simp [h])⟩

theorem Mod.drew (w : World) : Mod [] w w.drew := ⟨rfl, rfl, rfl, Nat.le_refl _, fun _ _ _ => rfl⟩

theorem Mod.alloc (w : World) (o : Obj) : Mod [] w (w.alloc o) := ⟨rfl, rfl, rfl, by simp, fun x hx _ => extA_alloc w o x hx⟩

theorem Blk.new (w : World) (l : List Value) (t : TypeId) : Blk (w.alloc (.cells ⟨l⟩ t)) w.heap.size l := ⟨t, by
  show (w.heap.push _)[w.heap.size]? = _
  rw [Array.getElem?_push_size]⟩

/-- a row is written: all cells from o on -/
def over (l : List Value) (o : Nat) : List Value → List Value
  | [] => l
  | v :: r => over (l.set o v) (o + 1) r

theorem over_length (vs : List Value) : ∀ (l : List Value) (o : Nat), (over l o vs).length = l.length := by
  induction vs with
  | nil => intro l o; rfl
  | cons v r ih => intro l o; rw [over, ih]; simp

theorem over_eq (vs : List Value) : ∀ (l : List Value) (o : Nat), o + vs.length ≤ l.length → over l o vs = l.take o ++ vs ++ l.drop (o + vs.length) := by
  induction vs with
  | nil => intro l o _; simp [over]
  | cons v r ih =>
    intro l o h
    simp only [List.length_cons] at h
    rw [over, ih _ _ (by simp; omega)]
    apply List.ext_getElem?
    intro i
    simp only [List.getElem?_append, List.length_append, List.length_take, List.length_set, List.length_cons]
    by_cases h1 : i < o
    · have : i < min (o + 1) l.length := by omega
      have h2 : i < min o l.length := by omega
      have h3 : i < min (o + 1) l.length + r.length := by omega
      have h4 : i < min o l.length + (r.length + 1) := by omega
      simp [h1, this, h2, h3, h4, List.getElem?_take, List.getElem?_set, show ¬ o = i by omega, show i < o + 1 by omega]
    · by_cases h2 : i = o
      · subst h2
        have a1 : i < min (i + 1) l.length := by omega
        have a2 : ¬ i < min i l.length := by omega
        have a3 : i < min (i + 1) l.length + r.length := by omega
        have a4 : i < min i l.length + (r.length + 1) := by omega
        have a5 : i - min i l.length = 0 := by omega
        simp [a1, a2, a3, a4, a5, List.getElem?_take, show i < l.length by omega]
      · have b1 : ¬ i < min (o + 1) l.length := by omega
        have b2 : ¬ i < min o l.length := by omega
        have e1 : min (o + 1) l.length = o + 1 := by omega
        have e2 : min o l.length = o := by omega
        rw [e1, e2]
        by_cases h3 : i < o + (r.length + 1)
        · have c1 : i < o + 1 + r.length := by omega
          have c2 : ¬ i < o + 1 := by omega
          rw [if_pos c1, if_neg c2, if_pos h3, if_neg h1]
          rw [show i - o = (i - (o + 1)) + 1 by omega]
          simp
        · have c1 : ¬ i < o + 1 + r.length := by omega
          rw [if_neg c1, if_neg h3]
          simp only [List.getElem?_drop]
          rw [List.getElem?_set, if_neg (by omega)]
          congr 1
          omega

theorem Blk.putAll {b : Nat} : ∀ (vs : List Value) {w : World} {l : List Value} (o i : Nat), Blk w b l → Blk (putAll w ⟨b, o, none⟩ vs i) b (over l (o + i) vs) ∧ Mod [b] w (putAll w ⟨b, o, none⟩ vs i)
  | [], w, l, o, i, h => ⟨h, Mod.refl _ _⟩
  | v :: r, w, l, o, i, h => by
    have ha : (⟨b, o, none⟩ : Addr).add i = ⟨b, o + i, none⟩ := by unfold Addr.add; split <;> simp_all
    unfold Go.Proofs.Ythdmmmfgjmmelaa.putAll over
    rw [ha]
    obtain ⟨h1, h2⟩ := Blk.putAll r o (i + 1) (h.set (o + i) v)
    rw [show o + (i + 1) = o + i + 1 by omega] at h1
    exact ⟨h1, (Mod.setCell w b (o + i) v).trans h2 (fun x hx => Or.inl hx)⟩

theorem add_mk (b o n : Nat) : (⟨b, o, none⟩ : Addr).add n = ⟨b, o + n, none⟩ := by unfold Addr.add; split <;> simp_all

/-! ### 2. several known blocks: one state -/

structure Hp (w0 w : World) (m : List (Nat × List Value)) : Prop where
  mod : Mod (m.map (·.1)) w0 w
  blk : ∀ p ∈ m, Blk w p.1 p.2
  nodup : (m.map (·.1)).Nodup

theorem Hp.start {w : World} {m : List (Nat × List Value)} (hb : ∀ p ∈ m, Blk w p.1 p.2) (hn : (m.map (·.1)).Nodup) : Hp w w m := ⟨Mod.refl _ _, hb, hn⟩

section
variable {w0 w : World} {m : List (Nat × List Value)} {b o : Nat} {l : List Value}

theorem Hp.drew (h : Hp w0 w m) : Hp w0 w.drew m := ⟨h.mod.trans (Mod.drew w) (fun _ hx => by cases hx), h.blk, h.nodup⟩

theorem Hp.alloc (h : Hp w0 w m) (l : List Value) (t : TypeId) : Hp w0 (w.alloc (.cells ⟨l⟩ t)) ((w.heap.size, l) :: m) := by
  refine ⟨?_, ?_, ?_⟩
  · have h1 := h.mod.trans (Mod.alloc w (.cells ⟨l⟩ t)) (fun _ hx => by cases hx)
    exact h1.mono fun x hx => Or.inl (by simp [hx])
  · intro p hp
    rcases List.mem_cons.1 hp with rfl | hp
    · exact Blk.new w l t
    · exact (h.blk p hp).keep (Mod.alloc w _) (by simp)
  · rw [List.map_cons, List.nodup_cons]
    refine ⟨fun hm => ?_, h.nodup⟩
    rw [List.mem_map] at hm
    obtain ⟨p, hp, he⟩ := hm
    have := (h.blk p hp).lt
    omega

/-- one of the known blocks is turned by a step that turns it alone -/
theorem Hp.turn {w' : World} {l' : List Value} {pre post : List (Nat × List Value)} (h : Hp w0 w (pre ++ (b, l) :: post)) (hm : Mod [b] w w') (hb : Blk w' b l') : Hp w0 w' (pre ++ (b, l') :: post) := by
  refine ⟨?_, ?_, ?_⟩
  · have e : ((pre ++ (b, l') :: post).map (·.1)) = ((pre ++ (b, l) :: post).map (·.1)) := by simp
    rw [e]
    exact h.mod.trans hm fun x hx => Or.inl (by rw [List.mem_singleton.1 hx]; simp)
  · have hn := h.nodup
    simp only [List.map_append, List.map_cons, List.nodup_append, List.nodup_cons] at hn
    intro p hp
    rw [List.mem_append, List.mem_cons] at hp
    rcases hp with hp | rfl | hp
    · refine (h.blk p (by simp [hp])).keep hm ?_
      intro hx
      have : p.1 = b := by simpa using hx
      exact hn.2.2 p.1 (List.mem_map_of_mem hp) b (by simp) this
    · exact hb
    · refine (h.blk p (by simp [hp])).keep hm ?_
      intro hx
      have : p.1 = b := by simpa using hx
      apply hn.2.1.1
      rw [← this]
      exact List.mem_map_of_mem hp
  · have e : ((pre ++ (b, l') :: post).map (·.1)) = ((pre ++ (b, l) :: post).map (·.1)) := by simp
    rw [e]; exact h.nodup

theorem Hp.get (h : Hp w0 w m) (hm : (b, l) ∈ m) : Blk w b l := h.blk _ hm

/-- a step that turns none of the known blocks -/
theorem Hp.keep {F : List Nat} {w' : World} (h : Hp w0 w m) (hm : Mod F w w') (hF : ∀ x ∈ F, x ∉ m.map (·.1) ∧ w0.heap.size ≤ x) : Hp w0 w' m :=
  ⟨h.mod.trans hm fun x hx => Or.inr (hF x hx).2, fun p hp => (h.blk p hp).keep hm fun hx => (hF _ hx).1 (List.mem_map_of_mem hp), h.nodup⟩

end

/-! ### 3. the words of the printed predicates, by what is known -/

section
variable {w0 w : World} {m : List (Nat × List Value)} {b o : Nat} {l : List Value}

theorem nz_i {a : Addr} {K : Addr → Prop} (h : K a) : nz (some a) K := h
theorem lt_i {α : Type} {e : α} {K : α → Prop} (h : K e) : lt e K := h
theorem lt_as {α : Type} {e e' : α} {K : α → Prop} (he : e = e') (h : K e') : lt e K := by subst he; exact h
theorem br_d {p : Prop} [Decidable p] {A B : Prop} (ht : p → A) (hf : ¬ p → B) : br (decide p) A B := by
  by_cases h : p
  · simp only [h, decide_true]; exact ht h
  · simp only [h, decide_false]; exact hf h
theorem br_b {b : Bool} {A B : Prop} (ht : b = true → A) (hf : b = false → B) : br b A B := by
  cases b
  · exact hf rfl
  · exact ht rfl

theorem Blk.ldI {k : IntKind} {n : Int} {K : Int → Prop} (h : Blk w b l) (hv : l[o]? = some (.int k n)) (hk : K n) : ldI k w ⟨b, o, none⟩ K := ⟨n, by rw [h.cell]; exact hv, hk⟩
theorem Blk.ldB {n : Bool} {K : Bool → Prop} (h : Blk w b l) (hv : l[o]? = some (.bool n)) (hk : K n) : ldB w ⟨b, o, none⟩ K := ⟨n, by rw [h.cell]; exact hv, hk⟩
theorem Blk.ldP {n : Option Addr} {K : Option Addr → Prop} (h : Blk w b l) (hv : l[o]? = some (.pointer n)) (hk : K n) : ldP w ⟨b, o, none⟩ K := ⟨n, by rw [h.cell]; exact hv, hk⟩
theorem Blk.ldL {n : Sl} {K : Sl → Prop} (h : Blk w b l) (hv : l[o]? = some (.slice n.a n.len n.cap)) (hk : K n) : ldL w ⟨b, o, none⟩ K := ⟨n, by rw [h.cell]; exact hv, hk⟩
theorem Blk.ldS {n : ByteArray} {K : ByteArray → Prop} (h : Blk w b l) (hv : l[o]? = some (.string n)) (hk : K n) : ldS w ⟨b, o, none⟩ K := ⟨n, by rw [h.cell]; exact hv, hk⟩
theorem Blk.ldM {n : Option Nat} {K : Option Nat → Prop} (h : Blk w b l) (hv : l[o]? = some (.map n)) (hk : K n) : ldM w ⟨b, o, none⟩ K := ⟨n, by rw [h.cell]; exact hv, hk⟩

theorem Blk.ldA {n : Nat} {cs : Array Value} {K : Array Value → Prop} (h : Blk w b l) (hs : cs.size = n) (hv : ∀ i, i < n → l[o + i]? = cs[i]?) (hk : K cs) : ldA w ⟨b, o, none⟩ n K :=
  ⟨cs, hs, fun i hi => by rw [add_mk, h.cell]; exact hv i hi, hk⟩

theorem Blk.st {v : Value} {K : World → Prop} (h : Blk w b l) (ho : o < l.length) (hs : storable v) (hk : ∀ w', Mod [b] w w' → Blk w' b (l.set o v) → K w') : st w ⟨b, o, none⟩ v K :=
  ⟨hs, ⟨l[o], by rw [h.cell, List.getElem?_eq_getElem ho]⟩, h.free o, hk _ (Mod.setCell w b o v) (h.set o v)⟩

theorem Hp.st0 {v : Value} {K : World → Prop} (h : Hp w0 w ((b, l) :: m)) (ho : o < l.length) (hs : storable v) (hk : ∀ w', Hp w0 w' ((b, l.set o v) :: m) → K w') : st w ⟨b, o, none⟩ v K :=
  (h.get (by simp)).st ho hs fun w' hm hb => hk w' (Hp.turn (pre := []) h hm hb)
theorem Hp.st1 {v : Value} {K : World → Prop} {x0 : Nat × List Value} (h : Hp w0 w (x0 :: (b, l) :: m)) (ho : o < l.length) (hs : storable v) (hk : ∀ w', Hp w0 w' (x0 :: (b, l.set o v) :: m) → K w') : st w ⟨b, o, none⟩ v K :=
  (h.get (by simp)).st ho hs fun w' hm hb => hk w' (Hp.turn (pre := [x0]) h hm hb)
theorem Hp.st2 {v : Value} {K : World → Prop} {x0 x1 : Nat × List Value} (h : Hp w0 w (x0 :: x1 :: (b, l) :: m)) (ho : o < l.length) (hs : storable v) (hk : ∀ w', Hp w0 w' (x0 :: x1 :: (b, l.set o v) :: m) → K w') : st w ⟨b, o, none⟩ v K :=
  (h.get (by simp)).st ho hs fun w' hm hb => hk w' (Hp.turn (pre := [x0, x1]) h hm hb)

theorem stA_blk {cs : Array Value} {K : World → Prop} (h : Blk w b l) (ho : o + cs.size ≤ l.length) (hs : ∀ v ∈ cs, storable v) (hk : ∀ w', Mod [b] w w' → Blk w' b (l.take o ++ cs.toList ++ l.drop (o + cs.size)) → K w') : stA w ⟨b, o, none⟩ cs K := by
  refine ⟨fun i hi => ?_, hs, ?_⟩
  · rw [add_mk, h.cell, List.getElem?_eq_getElem (by omega)]
    exact ⟨⟨_, rfl⟩, h.free _⟩
  · obtain ⟨h1, h2⟩ := Blk.putAll cs.toList o 0 h
    rw [Nat.add_zero, over_eq _ _ _ (by simpa using ho)] at h1
    exact hk _ h2 (by simpa using h1)

/-- a new block -/
theorem new_i {t : TypeId} {cs : Array Value} {K : Addr → World → Prop} (hk : ∀ w', Mod [] w w' → w'.heap.size = w.heap.size + 1 → Blk w' w.heap.size cs.toList → K ⟨w.heap.size, 0, none⟩ w') :
    lt (⟨World.heapSize w, 0, none⟩ : Addr) fun a => lt (World.alloc w (.cells cs t)) fun w' => K a w' :=
  hk _ (Mod.alloc _ _) (by simp) (Blk.new w cs.toList t)

theorem Hp.new {t : TypeId} {cs : Array Value} {K : Addr → World → Prop} (h : Hp w0 w m) (hk : ∀ nb w', w0.heap.size ≤ nb → Hp w0 w' ((nb, cs.toList) :: m) → K ⟨nb, 0, none⟩ w') :
    lt (⟨World.heapSize w, 0, none⟩ : Addr) fun a => lt (World.alloc w (.cells cs t)) fun w' => K a w' :=
  hk _ _ h.mod.size (h.alloc cs.toList t)

end

/-! ### 4. slices of one's own -/

/-- slice s owns the cells cs (sz a piece): it is nil, or heads a block of the footprint F -/
def Own (sz : Nat) (w : World) (s : Sl) (cs : List Value) (F : List Nat) : Prop :=
  (s = ⟨none, 0, 0⟩ ∧ cs = [] ∧ F = []) ∨ ∃ ob rest, s.a = some ⟨ob, 0, none⟩ ∧ Blk w ob (cs ++ rest) ∧ cs.length = s.len * sz ∧ (cs ++ rest).length = s.cap * sz ∧ F = [ob]

/-- what came in grows by new blocks alone -/
def Gr (n : Nat) (F F' : List Nat) : Prop := ∀ x ∈ F', x ∈ F ∨ n ≤ x

theorem Gr.refl (n : Nat) (F : List Nat) : Gr n F F := fun _ h => Or.inl h
theorem Gr.trans {n n' : Nat} {F G H : List Nat} (h : Gr n F G) (k : Gr n' G H) (hn : n ≤ n') : Gr n F H := fun x hx => by
  rcases k x hx with h1 | h1
  · exact h x h1
  · exact Or.inr (by omega)

theorem Own.lt {sz : Nat} {w : World} {s : Sl} {cs : List Value} {F : List Nat} (h : Own sz w s cs F) : ∀ x ∈ F, x < w.heap.size := by
  rcases h with ⟨_, _, rfl⟩ | ⟨ob, rest, _, hb, _, _, rfl⟩
  · intro x hx; cases hx
  · intro x hx
    have : x = ob := by simpa using hx
    subst this; exact hb.lt

theorem Own.keep {sz : Nat} {w w' : World} {s : Sl} {cs : List Value} {F G : List Nat} (h : Own sz w s cs F) (m : Mod G w w') (hd : ∀ x ∈ F, x ∉ G) : Own sz w' s cs F := by
  rcases h with h | ⟨ob, rest, h1, hb, h2, h3, rfl⟩
  · exact Or.inl h
  · exact Or.inr ⟨ob, rest, h1, hb.keep m (hd ob (by simp)), h2, h3, rfl⟩

theorem Own.len {sz : Nat} {w : World} {s : Sl} {cs : List Value} {F : List Nat} (h : Own sz w s cs F) : cs.length = s.len * sz := by
  rcases h with ⟨rfl, rfl, _⟩ | ⟨ob, rest, _, _, h2, _, _⟩
  · simp
  · exact h2

theorem Own.cell {sz : Nat} {w : World} {s : Sl} {cs : List Value} {F : List Nat} (h : Own sz w s cs F) {i : Nat} (hi : i < cs.length) : ∃ ob, s.a = some ⟨ob, 0, none⟩ ∧ w.cell? ⟨ob, i, none⟩ = cs[i]? := by
  rcases h with ⟨rfl, rfl, _⟩ | ⟨ob, rest, h1, hb, _, _, _⟩
  · simp at hi
  · exact ⟨ob, h1, by rw [hb.cell, List.getElem?_append_left hi]⟩

/-- all cells of an owned slice are read -/
theorem Own.rdO {sz k : Nat} {w : World} {s : Sl} {cs : List Value} {F : List Nat} {K : Array Value → Prop} (h : Own sz w s cs F) (hk : k = cs.length) (hK : K ⟨cs⟩) : rdO w s.a k K := by
  subst hk
  rcases h with ⟨rfl, rfl, _⟩ | ⟨ob, rest, h1, hb, _, _, _⟩
  · exact ⟨rfl, hK⟩
  · rw [h1]
    refine ⟨⟨cs⟩, rfl, fun i hi => ?_, hK⟩
    rw [add_mk, hb.cell, Nat.zero_add, List.getElem?_append_left hi]
    simp

theorem next_le (n c : Nat) (h : c < n) (hc : c ≤ n) : Builtin.nextslicecap n c ≤ 2 * n + 1024 := by
  unfold Builtin.nextslicecap
  split
  · omega
  · split
    · omega
    · have grow : ∀ (r c : Nat), c ≤ n → Builtin.growBy n r c ≤ 2 * n + 1024 := by
        intro r
        induction r with
        | zero => intro c hc; simp [Builtin.growBy]; omega
        | succ r ih =>
          intro c hc
          unfold Builtin.growBy
          split
          · omega
          · by_cases h2 : c + (c + 768) / 4 ≤ n
            · exact ih _ h2
            · have : ∀ (r c : Nat), n < c → Builtin.growBy n r c = c := by
                intro r c hc
                cases r with
                | zero => rfl
                | succ r => unfold Builtin.growBy; rw [if_pos (by omega)]
              rw [this _ _ (by omega)]
              omega
      exact grow 4 c (by omega)

/-- APPEND TO A SLICE OF ONE'S OWN. -/
theorem Own.append {P : Program} {elem : TypeId} {i : TypeInfo} {sz m : Nat} {w : World} {s : Sl} {cs : List Value} {F : List Nat} {new : Array Value} {K : Sl → World → Prop}
    (hi : P.info? elem = some i) (hsz : i.size = sz) (hsz0 : 0 < sz) (hz : (zc P elem).size = sz) (hb0 : i.bytes ≠ 0) (hb : (2 * (s.len + m) + 1024) * i.bytes ≤ 2 ^ 48)
    (h : Own sz w s cs F) (hn : new.size = m * sz) (hst : ∀ v ∈ new, storable v)
    (hk : ∀ s' w' F', Own sz w' s' (cs ++ new.toList) F' → Mod F w w' → Gr w.heap.size F F' → s'.len = s.len + m → K s' w') :
    apK P elem w s.a s.len s.cap m new K := by
  have hbo : P.bytesOf elem = i.bytes := by simp [Program.bytesOf, hi]
  unfold apK withSz
  simp only [hi, hsz]
  have hgrow : ∀ (old : List Value), old.length = s.len * sz → cs = old → s.len + m > s.cap → s.cap ≤ s.len + m → ∀ c, s.len + m ≤ c →
      K ⟨newAt w, s.len + m, c⟩ (w.drew.alloc (.cells ((⟨old⟩ : Array Value) ++ new ++ ⟨repL (c - (s.len + m)) (zc P elem).toList⟩) elem)) := by
    intro old hold hcs _ _ c hc
    subst hcs
    have hbl := Blk.new w.drew (cs ++ new.toList ++ repL (c - (s.len + m)) (zc P elem).toList) elem
    have e : ((⟨cs⟩ : Array Value) ++ new ++ ⟨repL (c - (s.len + m)) (zc P elem).toList⟩) = ⟨cs ++ new.toList ++ repL (c - (s.len + m)) (zc P elem).toList⟩ := by
      apply Array.ext'
      simp
    rw [e]
    refine hk _ _ [w.heap.size] (Or.inr ⟨w.heap.size, _, rfl, hbl, ?_, ?_, rfl⟩) ?_ ?_ rfl
    · simp [hold, hn, Nat.add_mul]
    · rw [List.length_append, List.length_append, repL_length, hold]
      have : (zc P elem).toList.length = sz := by simpa using hz
      rw [this]
      simp only [Array.length_toList, hn]
      rw [← Nat.add_mul, ← Nat.add_mul]
      congr 1
      omega
    · exact ((Mod.drew w).trans (Mod.alloc w.drew _) (fun _ hx => by cases hx)).mono (fun _ hx => by cases hx)
    · intro x hx
      have : x = w.heap.size := by simpa using hx
      exact Or.inr (by omega)
  rcases h with ⟨rfl, rfl, rfl⟩ | ⟨ob, rest, h1, hbk, h2, h3, rfl⟩
  · split
    · rename_i hle
      have hm0 : m = 0 := by simpa using hle
      subst hm0
      have : new = #[] := by
        apply Array.eq_empty_of_size_eq_zero
        simpa using hn
      subst this
      exact hk ⟨none, 0, 0⟩ w [] (Or.inl ⟨rfl, rfl, rfl⟩) (Mod.refl _ _) (Gr.refl _ _) rfl
    · rename_i hle
      refine ⟨⟨?_, by rw [hbo]; exact hb0⟩, ⟨by simp, ?_⟩⟩
      · rw [hbo]
        have := next_le (0 + m) 0 (by simp at hle ⊢; omega) (by omega)
        exact Nat.le_trans (Nat.mul_le_mul_right _ this) hb
      · exact hgrow [] (by simp) rfl (by simp at hle ⊢; omega) (by simp)
  · have hcap : s.len ≤ s.cap := by
      have := @List.length_append _ cs rest
      have h4 : s.len * sz ≤ s.cap * sz := by omega
      exact Nat.le_of_mul_le_mul_right h4 hsz0
    split
    · rename_i hle
      rw [h1]
      have ha : (⟨ob, 0, none⟩ : Addr).add (s.len * sz) = ⟨ob, s.len * sz, none⟩ := by rw [add_mk, Nat.zero_add]
      show stA w ((⟨ob, 0, none⟩ : Addr).add (s.len * sz)) new _
      rw [ha]
      have hle2 : s.len * sz + m * sz ≤ s.cap * sz := by rw [← Nat.add_mul]; exact Nat.mul_le_mul_right _ hle
      refine stA_blk hbk (by rw [hn]; omega) hst fun w' hm hb' => ?_
      rw [← h2, List.take_left' rfl, hn, List.drop_append, List.drop_of_length_le (by omega), List.nil_append, show cs.length + m * sz - cs.length = m * sz by omega] at hb'
      refine hk ⟨some ⟨ob, 0, none⟩, s.len + m, s.cap⟩ w' [ob] (Or.inr ⟨ob, rest.drop (m * sz), rfl, hb', ?_, ?_, rfl⟩) hm (Gr.refl _ _) rfl
      · simp [h2, hn, Nat.add_mul]
      · simp only [List.length_append, List.length_drop, Array.length_toList, hn]
        rw [List.length_append] at h3
        omega
    · rename_i hle
      refine ⟨⟨?_, by rw [hbo]; exact hb0⟩, ?_⟩
      · rw [hbo]
        have := next_le (s.len + m) s.cap (by omega) (by omega)
        exact Nat.le_trans (Nat.mul_le_mul_right _ this) hb
      · rw [h1]
        refine ⟨⟨cs⟩, by simpa using h2, fun j hj => ?_, hgrow cs h2 rfl (by omega) (by omega)⟩
        rw [add_mk, hbk.cell, Nat.zero_add, List.getElem?_append_left (by omega)]
        simp

end Go.Proofs.Ythdmmmfgjmmelaa
