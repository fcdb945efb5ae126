/- Things in memory that stand apart: what a step on one of them leaves of the others. Own work. -/
import Derived.Test.YthdmmmfgjmmelaaAri
namespace Go.Proofs.Ythdmmmfgjmmelaa
open Go Go.Proofs
set_option linter.unusedVariables false
set_option linter.unusedSimpArgs false

/-- a thing in memory, with the blocks that it holds -/
structure As where
  hd : World → List Nat → Prop
  keep : ∀ {w w' : World} {F G : List Nat}, hd w F → Mod G w w' → (∀ x ∈ F, x ∉ G) → hd w' F
  lt : ∀ {w : World} {F : List Nat}, hd w F → ∀ x ∈ F, x < w.heap.size

def blkA (b : Nat) (l : List Value) : As where
  hd w F := Blk w b l ∧ F = [b]
  keep := by
    rintro w w' F G ⟨h, rfl⟩ m hd
    exact ⟨h.keep m (hd b (by simp)), rfl⟩
  lt := by
    rintro w F ⟨h, rfl⟩ x hx
    have : x = b := by simpa using hx
    subst this; exact h.lt

def ownA (sz : Nat) (s : Sl) (cs : List Value) : As where
  hd w F := Own sz w s cs F
  keep := fun h m hd => h.keep m hd
  lt := fun h => h.lt

/-- two things that stand apart, as one -/
def andA (p q : As) : As where
  hd w F := ∃ f g, p.hd w f ∧ q.hd w g ∧ F = f ++ g ∧ ∀ x ∈ f, x ∉ g
  keep := by
    rintro w w' F G ⟨f, g, hp, hq, rfl, hd⟩ m hG
    exact ⟨f, g, p.keep hp m (fun x hx => hG x (by simp [hx])), q.keep hq m (fun x hx => hG x (by simp [hx])), rfl, hd⟩
  lt := by
    rintro w F ⟨f, g, hp, hq, rfl, hd⟩ x hx
    rcases List.mem_append.1 hx with hx | hx
    · exact p.lt hp x hx
    · exact q.lt hq x hx

/-- nothing -/
def noA : As where
  hd w F := F = []
  keep := fun h _ _ => h
  lt := by rintro w F rfl x hx; cases hx

/-- something that there is -/
def exA {α : Type} (p : α → As) : As where
  hd w F := ∃ a, (p a).hd w F
  keep := fun ⟨a, h⟩ m hd => ⟨a, (p a).keep h m hd⟩
  lt := fun ⟨a, h⟩ => (p a).lt h

/-- a thing and a fact -/
def ifA (c : Prop) (p : As) : As where
  hd w F := c ∧ p.hd w F
  keep := fun ⟨c, h⟩ m hd => ⟨c, p.keep h m hd⟩
  lt := fun ⟨_, h⟩ => p.lt h

def allA : List As → As
  | [] => noA
  | p :: ps => andA p (allA ps)

/-- from w0 on only F0 and what is new has turned; now the things ps stand, apart, in F0 and what is new -/
def St (F0 : List Nat) (w0 w : World) (ps : List As) : Prop := Mod F0 w0 w ∧ ∃ F, (allA ps).hd w F ∧ Gr w0.heap.size F0 F

section
variable {F0 : List Nat} {w0 w : World} {p q r p' : As} {ps : List As}

theorem St.start {F : List Nat} (h : (allA ps).hd w F) : St F w w ps := ⟨Mod.refl _ _, F, h, Gr.refl _ _⟩
theorem St.start0 : St [] w w [] := ⟨Mod.refl _ _, [], rfl, Gr.refl _ _⟩
theorem St.start1 {F : List Nat} (h : p.hd w F) : St F w w [p] := ⟨Mod.refl _ _, F, ⟨F, [], h, rfl, by simp, by simp⟩, Gr.refl _ _⟩
theorem St.end1 (h : St F0 w0 w [p]) : ∃ F, p.hd w F ∧ Mod F0 w0 w ∧ Gr w0.heap.size F0 F := by
  obtain ⟨m, F, ⟨f, g, hp, hg, rfl, _⟩, hr⟩ := h
  have hg : g = [] := hg
  subst hg
  exact ⟨f, hp, m, by simpa using hr⟩

/-- the first thing is turned -/
theorem St.step (h : St F0 w0 w (p :: ps)) : ∃ f, p.hd w f ∧ ∀ w' f' p', Mod f w w' → Gr w.heap.size f f' → p'.hd w' f' → St F0 w0 w' (p' :: ps) := by
  obtain ⟨m, F, ⟨f, g, hp, hg, rfl, hd⟩, hr⟩ := h
  refine ⟨f, hp, fun w' f' p' hm hgr hp' => ⟨m.trans hm fun x hx => hr x (by simp [hx]), f' ++ g, ⟨f', g, hp', (allA ps).keep hg hm (fun x hx h1 => hd x h1 hx), rfl, ?_⟩, ?_⟩⟩
  · intro x hx h1
    rcases hgr x hx with h2 | h2
    · exact hd x h2 h1
    · have := (allA ps).lt hg x h1; omega
  · intro x hx
    rcases List.mem_append.1 hx with hx | hx
    · rcases hgr x hx with h2 | h2
      · exact hr x (by simp [h2])
      · have := m.size; exact Or.inr (by omega)
    · exact hr x (by simp [hx])

theorem St.mp (h : St F0 w0 w (p :: ps)) (hp : ∀ F, p.hd w F → p'.hd w F) : St F0 w0 w (p' :: ps) := by
  obtain ⟨m, F, ⟨f, g, h1, h2⟩, hr⟩ := h
  exact ⟨m, F, ⟨f, g, hp f h1, h2⟩, hr⟩

/-- nothing known is turned -/
theorem St.skip {w' : World} (h : St F0 w0 w ps) (hm : Mod [] w w') : St F0 w0 w' ps := by
  obtain ⟨m, F, hp, hr⟩ := h
  exact ⟨m.trans hm (by simp), F, (allA ps).keep hp hm (by simp), hr⟩

/-- a thing that is new -/
theorem St.add {w' : World} {f' : List Nat} (h : St F0 w0 w ps) (hm : Mod [] w w') (hp : p'.hd w' f') (hn : Gr w.heap.size [] f') : St F0 w0 w' (p' :: ps) := by
  obtain ⟨m, F, hF, hr⟩ := h
  refine ⟨m.trans hm (by simp), f' ++ F, ⟨f', F, hp, (allA ps).keep hF hm (by simp), rfl, ?_⟩, ?_⟩
  · intro x hx h1
    rcases hn x hx with h2 | h2
    · cases h2
    · have := (allA ps).lt hF x h1; omega
  · intro x hx
    rcases List.mem_append.1 hx with hx | hx
    · rcases hn x hx with h2 | h2
      · cases h2
      · have := m.size; exact Or.inr (by omega)
    · exact hr x hx

theorem St.drop (h : St F0 w0 w (p :: ps)) : St F0 w0 w ps := by
  obtain ⟨m, F, ⟨f, g, h1, h2, rfl, h3⟩, hr⟩ := h
  exact ⟨m, g, h2, fun x hx => hr x (by simp [hx])⟩

theorem Gr.perm {n : Nat} {F0 F F' : List Nat} (h : Gr n F0 F) (hp : ∀ x ∈ F', x ∈ F) : Gr n F0 F' := fun x hx => h x (hp x hx)

theorem St.at1 (h : St F0 w0 w (p :: q :: ps)) : St F0 w0 w (q :: p :: ps) := by
  obtain ⟨m, F, ⟨f, g, h1, ⟨f', g', h2, h3, rfl, h4⟩, rfl, h5⟩, hr⟩ := h
  refine ⟨m, f' ++ (f ++ g'), ⟨f', f ++ g', h2, ⟨f, g', h1, h3, rfl, fun x hx h => h5 x hx (by simp [h])⟩, rfl, ?_⟩, hr.perm (by intro x hx; simp at hx ⊢; rcases hx with h | h | h <;> simp [h])⟩
  intro x hx h6
  rcases List.mem_append.1 h6 with h7 | h7
  · exact h5 x h7 (by simp [hx])
  · exact h4 x hx h7

theorem St.tail (h : St F0 w0 w (p :: ps)) {qs : List As} (hq : ∀ F0 w0 w, St F0 w0 w ps → St F0 w0 w qs) : St F0 w0 w (p :: qs) := by
  obtain ⟨m, F, ⟨f, g, h1, h2, rfl, h3⟩, hr⟩ := h
  obtain ⟨_, g', h4, h5⟩ := hq g w w (St.start h2)
  have hg : ∀ x ∈ g', x ∈ g := fun x hx => (h5 x hx).resolve_right (by have := (allA qs).lt h4 x hx; omega)
  exact ⟨m, f ++ g', ⟨f, g', h1, h4, rfl, fun x hx h => h3 x hx (hg x h)⟩, hr.perm (by
    intro x hx
    rcases List.mem_append.1 hx with h | h
    · exact List.mem_append_left _ h
    · exact List.mem_append_right _ (hg x h))⟩

theorem St.at2 (h : St F0 w0 w (p :: q :: r :: ps)) : St F0 w0 w (r :: p :: q :: ps) := (h.tail (fun _ _ _ k => k.at1)).at1
theorem St.at3 {s : As} (h : St F0 w0 w (p :: q :: r :: s :: ps)) : St F0 w0 w (s :: p :: q :: r :: ps) := (h.tail (fun _ _ _ k => k.at2)).at1
theorem St.at4 {s t : As} (h : St F0 w0 w (p :: q :: r :: s :: t :: ps)) : St F0 w0 w (t :: p :: q :: r :: s :: ps) := (h.tail (fun _ _ _ k => k.at3)).at1
theorem St.at5 {s t u : As} (h : St F0 w0 w (p :: q :: r :: s :: t :: u :: ps)) : St F0 w0 w (u :: p :: q :: r :: s :: t :: ps) := (h.tail (fun _ _ _ k => k.at4)).at1

theorem St.tail2 (h : St F0 w0 w (p :: q :: r :: ps)) : St F0 w0 w (p :: r :: q :: ps) := h.tail (fun _ _ _ k => k.at1)
theorem St.cut2 (h : St F0 w0 w (p :: q :: ps)) : St F0 w0 w [p, q] := h.tail fun F w0 w1 h => h.tail fun F w0 w1 h => by
  obtain ⟨m, F', hF, hg⟩ := h
  exact ⟨m, [], rfl, by intro x hx; cases hx⟩

theorem St.split (h : St F0 w0 w (andA p q :: ps)) : St F0 w0 w (p :: q :: ps) := by
  obtain ⟨m, F, ⟨f, g, ⟨f1, f2, h1, h2, rfl, h3⟩, h4, rfl, h5⟩, hr⟩ := h
  refine ⟨m, f1 ++ (f2 ++ g), ⟨f1, f2 ++ g, h1, ⟨f2, g, h2, h4, rfl, fun x hx => h5 x (by simp [hx])⟩, rfl, ?_⟩, by simpa using hr⟩
  intro x hx h
  rcases List.mem_append.1 h with h | h
  · exact h3 x hx h
  · exact h5 x (by simp [hx]) h

theorem St.join (h : St F0 w0 w (p :: q :: ps)) : St F0 w0 w (andA p q :: ps) := by
  obtain ⟨m, F, ⟨f, g, h1, ⟨f', g', h2, h3, rfl, h4⟩, rfl, h5⟩, hr⟩ := h
  refine ⟨m, f ++ f' ++ g', ⟨f ++ f', g', ⟨f, f', h1, h2, rfl, fun x hx h => h5 x hx (by simp [h])⟩, h3, rfl, ?_⟩, by simpa using hr⟩
  intro x hx h
  rcases List.mem_append.1 hx with hx | hx
  · exact h5 x hx (by simp [h])
  · exact h4 x hx h

theorem St.exI {α : Type} {p : α → As} (a : α) (h : St F0 w0 w (p a :: ps)) : St F0 w0 w (exA p :: ps) := h.mp fun _ h => ⟨a, h⟩
theorem St.exE {α : Type} {p : α → As} (h : St F0 w0 w (exA p :: ps)) : ∃ a, St F0 w0 w (p a :: ps) := by
  obtain ⟨m, F, ⟨f, g, ⟨a, h1⟩, h2⟩, hr⟩ := h
  exact ⟨a, m, F, ⟨f, g, h1, h2⟩, hr⟩
theorem St.ifI {c : Prop} (hc : c) (h : St F0 w0 w (p :: ps)) : St F0 w0 w (ifA c p :: ps) := h.mp fun _ h => ⟨hc, h⟩
theorem St.ifE {c : Prop} (h : St F0 w0 w (ifA c p :: ps)) : c ∧ St F0 w0 w (p :: ps) := by
  obtain ⟨m, F, ⟨f, g, ⟨hc, h1⟩, h2⟩, hr⟩ := h
  exact ⟨hc, m, F, ⟨f, g, h1, h2⟩, hr⟩

theorem St.get (h : St F0 w0 w (p :: ps)) : ∃ F, p.hd w F := by
  obtain ⟨f, hp, _⟩ := h.step
  exact ⟨f, hp⟩

theorem St.mod (h : St F0 w0 w ps) : Mod F0 w0 w := h.1

/-! ### steps -/
variable {b o : Nat} {l : List Value}

theorem St.blk (h : St F0 w0 w (blkA b l :: ps)) : Blk w b l := by
  obtain ⟨F, hb, _⟩ := h.get; exact hb
theorem St.blk1 (h : St F0 w0 w (p :: blkA b l :: ps)) : Blk w b l := h.drop.blk
theorem St.blk2 (h : St F0 w0 w (p :: q :: blkA b l :: ps)) : Blk w b l := h.drop.drop.blk

theorem St.drew (h : St F0 w0 w ps) : St F0 w0 w.drew ps := h.skip (Mod.drew w)
theorem St.drewK {K : World → Prop} (h : St F0 w0 w ps) (hk : ∀ w', St F0 w0 w' ps → K w') : lt w.drew K := hk _ h.drew

theorem St.st {v : Value} {K : World → Prop} (h : St F0 w0 w (blkA b l :: ps)) (ho : o < l.length) (hs : storable v) (hk : ∀ w', St F0 w0 w' (blkA b (l.set o v) :: ps) → K w') : st w ⟨b, o, none⟩ v K := by
  obtain ⟨f, ⟨hb, rfl⟩, hst⟩ := h.step
  exact hb.st ho hs fun w' hm hb' => hk w' (hst w' [b] _ hm (Gr.refl _ _) ⟨hb', rfl⟩)

theorem St.stA {cs : Array Value} {K : World → Prop} (h : St F0 w0 w (blkA b l :: ps)) (ho : o + cs.size ≤ l.length) (hs : ∀ v ∈ cs, storable v) (hk : ∀ w', St F0 w0 w' (blkA b (l.take o ++ cs.toList ++ l.drop (o + cs.size)) :: ps) → K w') : stA w ⟨b, o, none⟩ cs K := by
  obtain ⟨f, ⟨hb, rfl⟩, hst⟩ := h.step
  exact stA_blk hb ho hs fun w' hm hb' => hk w' (hst w' [b] _ hm (Gr.refl _ _) ⟨hb', rfl⟩)

theorem St.new {t : TypeId} {cs : Array Value} {K : Addr → World → Prop} (h : St F0 w0 w ps) (hk : ∀ nb w', St F0 w0 w' (blkA nb cs.toList :: ps) → K ⟨nb, 0, none⟩ w') :
    lt (⟨World.heapSize w, 0, none⟩ : Addr) fun a => lt (World.alloc w (.cells cs t)) fun w' => K a w' := by
  refine hk w.heap.size _ ?_
  exact h.add (Mod.alloc _ _) ⟨Blk.new w cs.toList t, rfl⟩ (fun x hx => Or.inr (by have : x = w.heap.size := (by simpa using hx); omega))

theorem St.newM {t : TypeId} {cs : Array Value} {K : Addr → World → Prop} (h : St F0 w0 w ps) (hk : ∀ nb w', Mod [] w w' → St F0 w0 w' (blkA nb cs.toList :: ps) → K ⟨nb, 0, none⟩ w') :
    lt (⟨World.heapSize w, 0, none⟩ : Addr) fun a => lt (World.alloc w (.cells cs t)) fun w' => K a w' := by
  refine hk w.heap.size _ (Mod.alloc _ _) ?_
  exact h.add (Mod.alloc _ _) ⟨Blk.new w cs.toList t, rfl⟩ (fun x hx => Or.inr (by have : x = w.heap.size := (by simpa using hx); omega))

theorem St.own {sz : Nat} {s : Sl} {cs : List Value} (h : St F0 w0 w (ownA sz s cs :: ps)) : ∃ F, Own sz w s cs F := h.get
theorem St.len {sz : Nat} {s : Sl} {cs : List Value} (h : St F0 w0 w (ownA sz s cs :: ps)) : cs.length = s.len * sz := by
  obtain ⟨F, ho⟩ := h.own; exact ho.len

theorem St.append {P : Program} {elem : TypeId} {i : TypeInfo} {sz m : Nat} {s : Sl} {cs : List Value} {new : Array Value} {K : Sl → World → Prop}
    (hi : P.info? elem = some i) (hsz : i.size = sz) (hsz0 : 0 < sz) (hz : (zc P elem).size = sz) (hb0 : i.bytes ≠ 0) (hb : (2 * (s.len + m) + 1024) * i.bytes ≤ 281474976710656)
    (h : St F0 w0 w (ownA sz s cs :: ps)) (hn : new.size = m * sz) (hst : ∀ v ∈ new, storable v)
    (hk : ∀ s' w', St F0 w0 w' (ownA sz s' (cs ++ new.toList) :: ps) → s'.len = s.len + m → K s' w') :
    apK P elem w s.a s.len s.cap m new K := by
  obtain ⟨f, ho, hstep⟩ := h.step
  exact Own.append hi hsz hsz0 hz hb0 (by rw [show (2 : Nat) ^ 48 = 281474976710656 from rfl]; exact hb) ho hn hst fun s' w' F' ho' hm hg hl => hk s' w' (hstep w' F' _ hm hg ho') hl

end

/-! ### loops: an invariant with whatever it speaks of -/

theorem least_ex {p : Nat → Prop} (h : ∃ n, p n) : ∃ n, p n ∧ ∀ k, p k → n ≤ k := by
  obtain ⟨n, hn⟩ := h
  induction n using Nat.strongRecOn with
  | ind n ih =>
    by_cases hk : ∃ k, k < n ∧ p k
    · obtain ⟨k, h1, h2⟩ := hk
      exact ih k h1 h2
    · exact ⟨n, hn, fun k hp => by
        rcases Nat.lt_or_ge k n with h1 | h1
        · exact absurd ⟨k, h1, hp⟩ hk
        · exact h1⟩

open Classical in
noncomputable def least (p : Nat → Prop) : Nat := if h : ∃ n, p n then (least_ex h).choose else 0
theorem least_spec {p : Nat → Prop} (h : ∃ n, p n) : p (least p) ∧ ∀ k, p k → least p ≤ k := by
  unfold least
  rw [dif_pos h]
  exact (least_ex h).choose_spec

/-- the loop law, for any state -/
theorem loop_core {σ α : Type} {C : (σ → Prop) → (σ → Nat) → σ → Prop} {s : σ} (Inv : α → σ → Prop) (m : α → Nat) (a : α) (h : Inv a s)
    (hb : ∀ a s I μ, Inv a s → (∀ a' s', Inv a' s' → m a' < m a → I s' ∧ μ s' < μ s) → C I μ s) : ∃ I μ, I s ∧ ∀ s, I s → C I μ s := by
  refine ⟨fun s => ∃ a, Inv a s, fun s => least fun n => ∃ a, Inv a s ∧ m a = n, ⟨a, h⟩, ?_⟩
  rintro s ⟨a, ha⟩
  have hex : ∃ n, ∃ a, Inv a s ∧ m a = n := ⟨_, a, ha, rfl⟩
  obtain ⟨⟨a1, h1, h2⟩, _⟩ := least_spec hex
  refine hb a1 s _ _ h1 fun a' s' h' hlt => ⟨⟨a', h'⟩, ?_⟩
  have hex' : ∃ n, ∃ a, Inv a s' ∧ m a = n := ⟨_, a', h', rfl⟩
  have := (least_spec hex').2 _ ⟨a', h', rfl⟩
  omega

theorem loop0 {α : Type} {C : (World → Prop) → (World → Nat) → World → Prop} {w : World} (Inv : α → World → Prop) (m : α → Nat) (a : α) (h : Inv a w)
    (hb : ∀ a w I μ, Inv a w → (∀ a' w', Inv a' w' → m a' < m a → I w' ∧ μ w' < μ w) → C I μ w) : ∃ I μ, I w ∧ ∀ w, I w → C I μ w :=
  loop_core Inv m a h hb

theorem loop1 {α A : Type} {C : (A → World → Prop) → (A → World → Nat) → A → World → Prop} {x : A} {w : World} (Inv : α → A → World → Prop) (m : α → Nat) (a : α) (h : Inv a x w)
    (hb : ∀ a x w I μ, Inv a x w → (∀ a' x' w', Inv a' x' w' → m a' < m a → I x' w' ∧ μ x' w' < μ x w) → C I μ x w) : ∃ I μ, I x w ∧ ∀ x w, I x w → C I μ x w := by
  obtain ⟨I, μ, h1, h2⟩ := loop_core (σ := A × World) (C := fun I μ s => C (fun x w => I (x, w)) (fun x w => μ (x, w)) s.1 s.2) (s := (x, w)) (fun a s => Inv a s.1 s.2) m a h
    (fun a s I μ hi hn => hb a s.1 s.2 _ _ hi fun a' x' w' => hn a' (x', w'))
  exact ⟨fun x w => I (x, w), fun x w => μ (x, w), h1, fun x w hI => h2 (x, w) hI⟩

theorem loop2 {α A B : Type} {C : (A → B → World → Prop) → (A → B → World → Nat) → A → B → World → Prop} {x : A} {y : B} {w : World} (Inv : α → A → B → World → Prop) (m : α → Nat) (a : α) (h : Inv a x y w)
    (hb : ∀ a x y w I μ, Inv a x y w → (∀ a' x' y' w', Inv a' x' y' w' → m a' < m a → I x' y' w' ∧ μ x' y' w' < μ x y w) → C I μ x y w) : ∃ I μ, I x y w ∧ ∀ x y w, I x y w → C I μ x y w := by
  obtain ⟨I, μ, h1, h2⟩ := loop_core (σ := A × B × World) (C := fun I μ s => C (fun x y w => I (x, y, w)) (fun x y w => μ (x, y, w)) s.1 s.2.1 s.2.2) (s := (x, y, w)) (fun a s => Inv a s.1 s.2.1 s.2.2) m a h
    (fun a s I μ hi hn => hb a s.1 s.2.1 s.2.2 _ _ hi fun a' x' y' w' => hn a' (x', y', w'))
  exact ⟨fun x y w => I (x, y, w), fun x y w => μ (x, y, w), h1, fun x y w hI => h2 (x, y, w) hI⟩

theorem loop3 {α A B D : Type} {C : (A → B → D → World → Prop) → (A → B → D → World → Nat) → A → B → D → World → Prop} {x : A} {y : B} {z : D} {w : World} (Inv : α → A → B → D → World → Prop) (m : α → Nat) (a : α) (h : Inv a x y z w)
    (hb : ∀ a x y z w I μ, Inv a x y z w → (∀ a' x' y' z' w', Inv a' x' y' z' w' → m a' < m a → I x' y' z' w' ∧ μ x' y' z' w' < μ x y z w) → C I μ x y z w) : ∃ I μ, I x y z w ∧ ∀ x y z w, I x y z w → C I μ x y z w := by
  obtain ⟨I, μ, h1, h2⟩ := loop_core (σ := A × B × D × World) (C := fun I μ s => C (fun x y z w => I (x, y, z, w)) (fun x y z w => μ (x, y, z, w)) s.1 s.2.1 s.2.2.1 s.2.2.2) (s := (x, y, z, w)) (fun a s => Inv a s.1 s.2.1 s.2.2.1 s.2.2.2) m a h
    (fun a s I μ hi hn => hb a s.1 s.2.1 s.2.2.1 s.2.2.2 _ _ hi fun a' x' y' z' w' => hn a' (x', y', z', w'))
  exact ⟨fun x y z w => I (x, y, z, w), fun x y z w => μ (x, y, z, w), h1, fun x y z w hI => h2 (x, y, z, w) hI⟩

theorem loop4 {α A B D E : Type} {C : (A → B → D → E → World → Prop) → (A → B → D → E → World → Nat) → A → B → D → E → World → Prop} {x : A} {y : B} {z : D} {u : E} {w : World} (Inv : α → A → B → D → E → World → Prop) (m : α → Nat) (a : α) (h : Inv a x y z u w)
    (hb : ∀ a x y z u w I μ, Inv a x y z u w → (∀ a' x' y' z' u' w', Inv a' x' y' z' u' w' → m a' < m a → I x' y' z' u' w' ∧ μ x' y' z' u' w' < μ x y z u w) → C I μ x y z u w) : ∃ I μ, I x y z u w ∧ ∀ x y z u w, I x y z u w → C I μ x y z u w := by
  obtain ⟨I, μ, h1, h2⟩ := loop_core (σ := A × B × D × E × World) (C := fun I μ s => C (fun x y z u w => I (x, y, z, u, w)) (fun x y z u w => μ (x, y, z, u, w)) s.1 s.2.1 s.2.2.1 s.2.2.2.1 s.2.2.2.2) (s := (x, y, z, u, w)) (fun a s => Inv a s.1 s.2.1 s.2.2.1 s.2.2.2.1 s.2.2.2.2) m a h
    (fun a s I μ hi hn => hb a s.1 s.2.1 s.2.2.1 s.2.2.2.1 s.2.2.2.2 _ _ hi fun a' x' y' z' u' w' => hn a' (x', y', z', u', w'))
  exact ⟨fun x y z u w => I (x, y, z, u, w), fun x y z u w => μ (x, y, z, u, w), h1, fun x y z u w hI => h2 (x, y, z, u, w) hI⟩

/-! ### calls -/

theorem ret_k {P : Program} {k : Nat} {args : Array Value} {w : World} {K : Ending → World → Prop} (h : Calls P k args w (Ret fun v w' => K (.returned v) w')) : Calls P k args w K :=
  h.mono fun e w' ⟨v, he, hq⟩ => he ▸ hq

end Go.Proofs.Ythdmmmfgjmmelaa
