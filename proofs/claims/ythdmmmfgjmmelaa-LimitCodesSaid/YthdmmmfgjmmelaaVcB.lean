/- Regions whose order is drawn: what is quiet is taken first, what acts is taken in each order that is left open; and every drawn order comes to one of these. Own work. -/
import Derived.Test.YthdmmmfgjmmelaaVcA
namespace Go.Proofs.Ythdmmmfgjmmelaa
open Go

/-! ### 1. Every order -/

def okAny (P : Program) (ops : Array Oper) (K : Act → World → Prop) : Nat → Array Bool → Act → World → Prop
  | 0, listed, a, w => Region.ready .any ops listed = [] ∧ K a w
  | f + 1, listed, a, w =>
    (Region.ready .any ops listed = [] → K a w) ∧
    ∀ i ∈ Region.ready .any ops listed, stepOk P ops i a w (okAny P ops K f (listed.setIfInBounds i true))

theorem wpAny_of_okAny {P : Program} {ops : Array Oper} {Q : Exit → Act → World → Prop} {K : Act → World → Prop} (hQ : ∀ a w, K a w → Q .normal a w) :
    ∀ (f : Nat) (listed : Array Bool) (a : Act) (w : World), okAny P ops K f listed a w → wpAny P .any ops Q f listed a w
  | 0, _, _, _, h => ⟨h.1, hQ _ _ h.2⟩
  | f + 1, _, _, _, h => ⟨fun h0 => hQ _ _ (h.1 h0), fun i hi => wpOp_mono (fun a w => wpAny_of_okAny hQ f _ a w) (wpOp_of_stepOk (h.2 i hi))⟩

theorem okAny_end {P : Program} {ops : Array Oper} {K : Act → World → Prop} {listed : Array Bool} {a : Act} {w : World} (hr : Region.ready .any ops listed = []) (hk : K a w) : ∀ f, okAny P ops K f listed a w
  | 0 => ⟨hr, hk⟩
  | _ + 1 => ⟨fun _ => hk, by rw [hr]; simp⟩

/-! ### 2. What a lazily taken operation gives -/

def extA (w w' : World) : Prop := ∀ b, b < w.heap.size → w'.heap[b]? = w.heap[b]?

theorem extA_refl (w : World) : extA w w := fun _ _ => rfl
theorem extA_trans {a b c : World} (h : extA a b) (hs : a.heap.size ≤ b.heap.size) (k : extA b c) : extA a c := fun i hi => (k i (by omega)).trans (h i hi)
theorem extA_size {a b : World} (h : extA a b) : a.heap.size ≤ b.heap.size := by
  rcases Nat.eq_zero_or_pos a.heap.size with h0 | h0
  · omega
  · have h1 := h (a.heap.size - 1) (by omega)
    rw [Array.getElem?_eq_getElem (by omega : a.heap.size - 1 < a.heap.size)] at h1
    have := (Array.getElem?_eq_some_iff.1 h1).1
    omega
theorem extA_alloc (w : World) (o : Obj) : extA w (w.alloc o) := fun b hb => by
  show (w.heap.push o)[b]? = _
  rw [Array.getElem?_push, if_neg (by omega)]

/-- At 'a' operation o gives v, in every world that has what w has. -/
def gives (P : Program) (ops : Array Oper) (rd : Bool) (o : Oper) (a : Act) (w : World) (v : Value) : Prop :=
  (Region.wanted o (yielded ops a.tmps) = true ∧ ∀ w', (rd = true → extA w w') → (execOp a.eval o).run P w' = .ok (.value v) w') ∨
  (Region.wanted o (yielded ops a.tmps) = false ∧ v = undef)

theorem gives_step {P : Program} {ops : Array Oper} {rd : Bool} {i : Nat} {o : Oper} {a : Act} {w : World} {v : Value} (ho : ops[i]? = some o) (h : gives P ops rd o a w v) {K : Act → World → Prop} (hk : K (a.put o.dst v) w) : stepOk P ops i a w K := by
  unfold stepOk
  simp only [ho]
  rcases h with ⟨h1, h2⟩ | ⟨h1, rfl⟩
  · simp only [h1, if_true, opOk, h2 w (fun _ => extA_refl w)]; exact hk
  · simp only [h1]; exact hk

theorem gives_ext {P : Program} {ops : Array Oper} {rd : Bool} {o : Oper} {a : Act} {w w1 : World} {v : Value} (h : gives P ops rd o a w v) (he : rd = true → extA w w1) : gives P ops rd o a w1 v := by
  rcases h with ⟨h1, h2⟩ | h
  · exact Or.inl ⟨h1, fun w' h' => h2 w' fun hr => extA_trans (he hr) (extA_size (he hr)) (h' hr)⟩
  · exact Or.inr h

/-- The two acts agree where operation o looks. -/
def alike (ops : Array Oper) (o : Oper) (a b : Act) : Prop := ∀ t, t ∈ o.looksAt ops → a.tmps.getD t undef = b.tmps.getD t undef

theorem alike_exec {ops : Array Oper} {o : Oper} {a b : Act} (hs : ∀ cs bb, o.op ≠ .select cs bb) (h : alike ops o a b) : execOp a.eval o = execOp b.eval o :=
  execOp_congr o hs fun x hx => by
    cases x with
    | tmp t => exact h t (List.mem_append_left _ (List.mem_filterMap.2 ⟨.tmp t, by simpa using hx, rfl⟩))
    | _ => rfl

theorem yielded_getD (ops : Array Oper) (ts : Array Value) (g : Nat) : yielded ops ts g = match (ops[g]?).bind (·.dst) with
    | none => none
    | some t => match ts.getD t undef with
      | .bool b => some b
      | _ => none := by
  unfold yielded
  cases h : (ops[g]?).bind (·.dst) with
  | none => rfl
  | some t =>
    simp only [Option.bind_some, Array.getD_eq_getD_getElem?]
    cases h2 : ts[t]? with
    | none => simp [undef]
    | some v => cases v <;> simp

theorem alike_wanted {ops : Array Oper} {o : Oper} {a b : Act} (h : alike ops o a b) : Region.wanted o (yielded ops a.tmps) = Region.wanted o (yielded ops b.tmps) := by
  unfold Region.wanted
  cases hg : o.guard with
  | none => rfl
  | some gw =>
    obtain ⟨g, want⟩ := gw
    have : yielded ops a.tmps g = yielded ops b.tmps g := by
      rw [yielded_getD, yielded_getD]
      cases ht : (ops[g]?).bind (·.dst) with
      | none => rfl
      | some t =>
        have := h t (List.mem_append_right _ (by simp [hg, ht]))
        simp only [this]
    simp only [this]

theorem gives_alike {P : Program} {ops : Array Oper} {rd : Bool} {o : Oper} {a b : Act} {w : World} {v : Value} (hs : ∀ cs bb, o.op ≠ .select cs bb) (h : alike ops o a b) (hg : gives P ops rd o a w v) : gives P ops rd o b w v := by
  unfold gives at *
  rw [← alike_exec hs h, ← alike_wanted h]
  exact hg

/-! ### 3. The static facts of a region -/

structure Stat (ops : Array Oper) (pre : Nat → Nat → Bool) (lz rd al : Nat → Bool) : Prop where
  back : ∀ (j : Nat) (oj : Oper), ops[j]? = some oj → ∀ e ∈ oj.after, Region.binds .any e = true → e.on < j
  pre_edge : ∀ (i j : Nat) (oj : Oper), ops[j]? = some oj → pre i j = true → ∃ e ∈ oj.after, Region.binds .any e = true ∧ e.on < j ∧ (e.on = i ∨ pre i e.on = true)
  nosel : ∀ (j : Nat) (o : Oper) cs b, ops[j]? = some o → o.op ≠ .select cs b
  nodup : ∀ (i j : Nat) (oi oj : Oper) (d : Nat), ops[i]? = some oi → ops[j]? = some oj → i ≠ j → oi.dst = some d → oj.dst ≠ some d
  raw : ∀ (i j : Nat) (oi oj : Oper) (d : Nat), ops[i]? = some oi → ops[j]? = some oj → i ≠ j → oi.dst = some d → d ∈ oj.looksAt ops → pre i j = true ∨ (lz i = false ∧ pre j i = true)
  self : ∀ (i : Nat) (oi : Oper) (d : Nat), ops[i]? = some oi → oi.dst = some d → lz i = true → d ∉ oi.looksAt ops
  rdw : ∀ (m i : Nat), m < ops.size → i < ops.size → rd m = true → lz m = true → lz i = false → al i = false → pre m i = true ∨ pre i m = true

def closedL (ops : Array Oper) (listed : Array Bool) : Prop :=
  ∀ j oj, ops[j]? = some oj → listed.getD j false = true → ∀ e ∈ oj.after, Region.binds .any e = true → listed.getD e.on false = true

theorem pre_listed {ops : Array Oper} {pre : Nat → Nat → Bool} {lz rd al : Nat → Bool} (S : Stat ops pre lz rd al) {listed : Array Bool} (hc : closedL ops listed) :
    ∀ (j i : Nat), pre i j = true → (∃ oj, ops[j]? = some oj ∧ ∀ e ∈ oj.after, Region.binds .any e = true → listed.getD e.on false = true) → i < ops.size → (∀ k, k < ops.size → ∃ o, ops[k]? = some o) → listed.getD i false = true := by
  intro j
  induction j using Nat.strongRecOn with
  | _ j ih =>
    intro i hp ⟨oj, hoj, hall⟩ hi hex
    obtain ⟨e, he, hb, hlt, h⟩ := S.pre_edge i j oj hoj hp
    have hl := hall e he hb
    rcases h with rfl | h
    · exact hl
    · have hj : j < ops.size := (Array.getElem?_eq_some_iff.1 hoj).1
      obtain ⟨oe, hoe⟩ := hex e.on (by omega)
      exact ih e.on hlt i h ⟨oe, hoe, hc e.on oe hoe hl⟩ hi hex

theorem getD_replicate_false' (m j : Nat) : (Array.replicate m false).getD j false = false := by
  rcases Nat.lt_or_ge j m with h | h <;> simp [h]

theorem getD_true_of_false {listed : Array Bool} {i : Nat} (hi : i < listed.size) : listed.getD i true = listed.getD i false := by
  simp [hi]

/-! ### 4. The tree of orders that count -/

def tree (P : Program) (ops : Array Oper) (lz rd al : Nat → Bool) (K : Act → World → Prop) : Nat → Array Bool → Act → World → Prop
  | 0, listed, a, w => Region.ready .any ops listed = [] ∧ K a w
  | f + 1, listed, a, w =>
    (∃ i o v, i ∈ Region.ready .any ops listed ∧ lz i = true ∧ ops[i]? = some o ∧ gives P ops (rd i) o a w v ∧ tree P ops lz rd al K f (listed.setIfInBounds i true) (a.put o.dst v) w) ∨
    ((∀ i ∈ Region.ready .any ops listed, lz i = false) ∧ (Region.ready .any ops listed = [] → K a w) ∧
      ∀ i ∈ Region.ready .any ops listed, stepOk P ops i a w fun a' w' => (al i = true → extA w w') ∧ tree P ops lz rd al K f (listed.setIfInBounds i true) a' w')

structure Inv (P : Program) (ops : Array Oper) (lz rd : Nat → Bool) (L S : Array Bool) (a b : Act) (w : World) : Prop where
  sizeL : L.size = ops.size
  sizeS : S.size = ops.size
  sub : ∀ i, S.getD i false = true → L.getD i false = true
  clL : closedL ops L
  clS : closedL ops S
  miss : ∀ m om, ops[m]? = some om → L.getD m false = true → S.getD m false = false → lz m = true ∧ ∃ v, (∀ c, alike ops om a c → gives P ops (rd m) om c w v) ∧ (∀ d, om.dst = some d → d < a.tmps.size → a.tmps.getD d undef = v)
  defers : b.defers = a.defers
  size : b.tmps.size = a.tmps.size
  agree : ∀ t, (∀ m om, ops[m]? = some om → L.getD m false = true → S.getD m false = false → om.dst ≠ some t) → b.tmps.getD t undef = a.tmps.getD t undef

theorem getD_put (a : Act) (d : Option Nat) (v : Value) (t : Nat) : (a.put d v).tmps.getD t undef = if d = some t ∧ t < a.tmps.size then v else a.tmps.getD t undef := by
  cases d with
  | none => simp [Act.put]
  | some s =>
    simp only [Act.put, Option.some.injEq, Array.getD_eq_getD_getElem?]
    by_cases h : s = t
    · subst h
      by_cases h2 : s < a.tmps.size
      · simp [h2]
      · simp [h2]
    · rw [Array.getElem?_setIfInBounds_ne h]
      simp [h]

theorem size_put (a : Act) (d : Option Nat) (v : Value) : (a.put d v).tmps.size = a.tmps.size := by cases d <;> simp [Act.put]
theorem defers_put (a : Act) (d : Option Nat) (v : Value) : (a.put d v).defers = a.defers := by cases d <;> rfl

theorem closed_set {ops : Array Oper} {L : Array Bool} (hc : closedL ops L) {i : Nat} (hi : i ∈ Region.ready .any ops L) : closedL ops (L.setIfInBounds i true) := by
  obtain ⟨_, o, ho, hall⟩ := mem_ready.1 hi
  intro j oj hj hl e he hb
  by_cases hij : i = j
  · subst hij
    have : oj = o := Option.some.inj (hj.symm.trans ho)
    subst this
    exact getD_set_true (hall e he hb)
  · rw [getD_set_ne false hij] at hl
    exact getD_set_true (hc j oj hj hl e he hb)

theorem act_eq {a b : Act} (hd : b.defers = a.defers) (hs : b.tmps.size = a.tmps.size) (h : ∀ t, b.tmps.getD t undef = a.tmps.getD t undef) : b = a := by
  obtain ⟨ta, da⟩ := a
  obtain ⟨tb, db⟩ := b
  simp only at hd hs h
  subst hd
  congr 1
  apply Array.ext hs
  intro i h1 h2
  have := h i
  simpa [h1, h2] using this

theorem ops_some {ops : Array Oper} (k : Nat) (hk : k < ops.size) : ∃ o, ops[k]? = some o := ⟨ops[k], Array.getElem?_eq_getElem hk⟩

theorem not_missing_pre {P : Program} {ops : Array Oper} {pre : Nat → Nat → Bool} {lz rd al : Nat → Bool} (St : Stat ops pre lz rd al) {L S : Array Bool} {a b : Act} {w : World} (I : Inv P ops lz rd L S a b w)
    {i m : Nat} (hi : i ∈ Region.ready .any ops S) (hm : m < ops.size) (hms : S.getD m false = false) : pre m i = false := by
  cases hp : pre m i with
  | false => rfl
  | true =>
    obtain ⟨_, o, ho, hall⟩ := mem_ready.1 hi
    have := pre_listed St I.clS i m hp ⟨o, ho, hall⟩ hm ops_some
    rw [hms] at this
    cases this

/-- Where a ready operation looks the two acts agree. -/
theorem alike_ready {P : Program} {ops : Array Oper} {pre : Nat → Nat → Bool} {lz rd al : Nat → Bool} (St : Stat ops pre lz rd al) {L S : Array Bool} {a b : Act} {w : World} (I : Inv P ops lz rd L S a b w)
    {i : Nat} {o : Oper} (ho : ops[i]? = some o) (hi : i ∈ Region.ready .any ops S) : alike ops o a b := by
  intro t ht
  refine (I.agree t fun m om hm hL hS hd => ?_).symm
  have hmlt : m < ops.size := (Array.getElem?_eq_some_iff.1 hm).1
  have hlz := (I.miss m om hm hL hS).1
  by_cases hmi : m = i
  · subst hmi
    have : om = o := Option.some.inj (hm.symm.trans ho)
    subst this
    exact St.self m om t hm hd hlz ht
  · rcases St.raw m i om o t hm ho hmi hd ht with h | ⟨h, _⟩
    · rw [not_missing_pre St I hi hmlt hS] at h; cases h
    · rw [hlz] at h; cases h

theorem Inv.lazily {P : Program} {ops : Array Oper} {pre : Nat → Nat → Bool} {lz rd al : Nat → Bool} (St : Stat ops pre lz rd al) {L S : Array Bool} {a b : Act} {w : World} (I : Inv P ops lz rd L S a b w)
    {i : Nat} {o : Oper} {v : Value} (ho : ops[i]? = some o) (hi : i ∈ Region.ready .any ops L) (hlz : lz i = true) (hg : gives P ops (rd i) o a w v) :
    Inv P ops lz rd (L.setIfInBounds i true) S (a.put o.dst v) b w := by
  obtain ⟨hun, _, _, _⟩ := mem_ready.1 hi
  have hilt : i < ops.size := (Array.getElem?_eq_some_iff.1 ho).1
  have hLi : L.getD i false = false := by rw [← getD_true_of_false (by rw [I.sizeL]; exact hilt)]; exact hun
  have hSi : S.getD i false = false := by
    cases h : S.getD i false with
    | false => rfl
    | true => rw [I.sub i h] at hLi; cases hLi
  refine ⟨by simp [I.sizeL], I.sizeS, fun j hj => getD_set_true (I.sub j hj), closed_set I.clL hi, I.clS, ?_, by rw [defers_put]; exact I.defers, by rw [size_put]; exact I.size, ?_⟩
  · intro m om hm hL hS
    by_cases hmi : i = m
    · subst hmi
      have : om = o := Option.some.inj (hm.symm.trans ho)
      subst this
      refine ⟨hlz, v, fun c hc => ?_, fun d hd hlt => ?_⟩
      · refine gives_alike (St.nosel i om · · ho) (fun t ht => ?_) hg
        rw [← hc t ht, getD_put]
        rw [if_neg]
        intro h
        exact St.self i om t ho h.1 hlz ht
      · rw [size_put] at hlt
        rw [getD_put, if_pos ⟨hd, hlt⟩]
    · rw [getD_set_ne false hmi] at hL
      obtain ⟨h1, u, h2, h3⟩ := I.miss m om hm hL hS
      refine ⟨h1, u, fun c hc => h2 c fun t ht => ?_, fun d hd hlt => ?_⟩
      · rw [← hc t ht, getD_put, if_neg]
        intro h
        rcases St.raw i m o om t ho hm hmi h.1 ht with hp | ⟨hz, _⟩
        · have hmlt : m < ops.size := (Array.getElem?_eq_some_iff.1 hm).1
          have := pre_listed St I.clL m i hp ⟨om, hm, fun e he hb => I.clL m om hm hL e he hb⟩ hilt ops_some
          rw [hLi] at this; cases this
        · rw [hlz] at hz; cases hz
      · rw [size_put] at hlt
        rw [getD_put, if_neg]
        · exact h3 d hd hlt
        · intro h
          exact St.nodup i m o om d ho hm hmi h.1 hd
  · intro t ht
    rw [getD_put, if_neg]
    · refine I.agree t fun m om hm hL hS => ?_
      refine ht m om hm ?_ hS
      exact getD_set_true hL
    · intro h
      exact ht i o ho (by simp [I.sizeL, hilt]) hSi h.1

theorem Inv.caught {P : Program} {ops : Array Oper} {pre : Nat → Nat → Bool} {lz rd al : Nat → Bool} (St : Stat ops pre lz rd al) {L S : Array Bool} {a b : Act} {w : World} (I : Inv P ops lz rd L S a b w)
    {m : Nat} {om : Oper} (hm : ops[m]? = some om) (hr : m ∈ Region.ready .any ops S) (hL : L.getD m false = true) :
    ∃ v, gives P ops (rd m) om b w v ∧ Inv P ops lz rd L (S.setIfInBounds m true) a (b.put om.dst v) w := by
  obtain ⟨hun, _, _, _⟩ := mem_ready.1 hr
  have hmlt : m < ops.size := (Array.getElem?_eq_some_iff.1 hm).1
  have hSm : S.getD m false = false := by rw [← getD_true_of_false (by rw [I.sizeS]; exact hmlt)]; exact hun
  obtain ⟨h1, v, h2, h3⟩ := I.miss m om hm hL hSm
  have hal := alike_ready St I hm hr
  refine ⟨v, h2 b hal, I.sizeL, by simp [I.sizeS], ?_, I.clL, closed_set I.clS hr, ?_, by rw [defers_put]; exact I.defers, by rw [size_put]; exact I.size, ?_⟩
  · intro j hj
    by_cases hmj : m = j
    · subst hmj; exact hL
    · rw [getD_set_ne false hmj] at hj; exact I.sub j hj
  · intro k ok hk hLk hSk
    have hmk : m ≠ k := by
      intro h; subst h
      simp [I.sizeS, hmlt] at hSk
    rw [getD_set_ne false hmk] at hSk
    exact I.miss k ok hk hLk hSk
  · intro t ht
    rw [getD_put]
    by_cases hd : om.dst = some t ∧ t < b.tmps.size
    · rw [if_pos hd]
      exact (h3 t hd.1 (by rw [← I.size]; exact hd.2)).symm
    · rw [if_neg hd]
      by_cases hd1 : om.dst = some t
      · have hlt : ¬ t < b.tmps.size := fun h => hd ⟨hd1, h⟩
        have hlt2 : ¬ t < a.tmps.size := by rw [← I.size]; exact hlt
        simp [Array.getD_eq_getD_getElem?, hlt, hlt2]
      · refine I.agree t fun k ok hk hLk hSk hdk => ?_
        by_cases hmk : m = k
        · subst hmk
          have : ok = om := Option.some.inj (hk.symm.trans hm)
          subst this
          exact hd1 hdk
        · exact ht k ok hk hLk (by rw [getD_set_ne false hmk]; exact hSk) hdk

theorem Inv.acted {P : Program} {ops : Array Oper} {pre : Nat → Nat → Bool} {lz rd al : Nat → Bool} (St : Stat ops pre lz rd al) {L S : Array Bool} {a b : Act} {w w' : World} (I : Inv P ops lz rd L S a b w)
    {i : Nat} {o : Oper} (v : Value) (ho : ops[i]? = some o) (hi : i ∈ Region.ready .any ops S) (hiL : i ∈ Region.ready .any ops L) (hlz : lz i = false) (hal : al i = true → extA w w') :
    Inv P ops lz rd (L.setIfInBounds i true) (S.setIfInBounds i true) (a.put o.dst v) (b.put o.dst v) w' := by
  have hilt : i < ops.size := (Array.getElem?_eq_some_iff.1 ho).1
  have hLi : L.getD i false = false := by rw [← getD_true_of_false (by rw [I.sizeL]; exact hilt)]; exact (mem_ready.1 hiL).1
  refine ⟨by simp [I.sizeL], by simp [I.sizeS], ?_, closed_set I.clL hiL, closed_set I.clS hi, ?_, by rw [defers_put, defers_put]; exact I.defers, by rw [size_put, size_put]; exact I.size, ?_⟩
  · intro j hj
    by_cases hij : i = j
    · subst hij; simp [I.sizeL, hilt]
    · rw [getD_set_ne false hij] at hj ⊢; exact I.sub j hj
  · intro m om hm hL hS
    have hmi : i ≠ m := by
      intro h; subst h
      simp [I.sizeS, hilt] at hS
    rw [getD_set_ne false hmi] at hL hS
    have hmlt : m < ops.size := (Array.getElem?_eq_some_iff.1 hm).1
    obtain ⟨h1, u, h2, h3⟩ := I.miss m om hm hL hS
    have hnp := not_missing_pre St I hi hmlt hS
    have hnq : pre i m = false := by
      cases hp : pre i m with
      | false => rfl
      | true =>
        have := pre_listed St I.clL m i hp ⟨om, hm, fun e he hb => I.clL m om hm hL e he hb⟩ hilt ops_some
        rw [hLi] at this; cases this
    refine ⟨h1, u, fun c hc => ?_, fun d hd hlt => ?_⟩
    · refine gives_ext (h2 c fun t ht => ?_) fun hr => ?_
      · rw [← hc t ht, getD_put, if_neg]
        intro h
        rcases St.raw i m o om t ho hm hmi h.1 ht with hp | ⟨_, hp⟩
        · rw [hnq] at hp; cases hp
        · rw [hnp] at hp; cases hp
      · cases hali : al i with
        | true => exact hal hali
        | false =>
          rcases St.rdw m i hmlt hilt hr h1 hlz hali with hp | hp
          · rw [hnp] at hp; cases hp
          · rw [hnq] at hp; cases hp
    · rw [size_put] at hlt
      rw [getD_put, if_neg]
      · exact h3 d hd hlt
      · intro h
        exact St.nodup i m o om d ho hm hmi h.1 hd
  · intro t ht
    rw [getD_put, getD_put, I.size]
    by_cases hd : o.dst = some t ∧ t < a.tmps.size
    · rw [if_pos hd, if_pos hd]
    · rw [if_neg hd, if_neg hd]
      refine I.agree t fun m om hm hL hS => ?_
      have hmi : i ≠ m := by
        intro h; subst h
        rw [hLi] at hL; cases hL
      exact ht m om hm (by rw [getD_set_ne false hmi]; exact hL) (by rw [getD_set_ne false hmi]; exact hS)

def missing (L S : Array Bool) (n : Nat) : Nat := ((List.range n).filter fun i => L.getD i false && !S.getD i false).length

theorem cnt_drop (p p' : Nat → Bool) (m : Nat) (hm : p m = true) (hm' : p' m = false) (ho : ∀ i, i ≠ m → p' i = p i) : ∀ n, m < n → ((List.range n).filter p').length + 1 = ((List.range n).filter p).length := by
  intro n
  induction n with
  | zero => intro h; omega
  | succ k ih =>
    intro h
    rw [List.range_succ, List.filter_append, List.filter_append, List.length_append, List.length_append]
    by_cases hk : m = k
    · subst hk
      have e : (List.range m).filter p' = (List.range m).filter p := List.filter_congr fun i hi => ho i (by have := List.mem_range.1 hi; omega)
      rw [e]
      simp [hm, hm']
    · have := ih (by omega)
      have e : [k].filter p' = [k].filter p := List.filter_congr fun i hi => ho i (by have := List.mem_singleton.1 hi; omega)
      rw [e]
      omega

theorem missing_set_S {L S : Array Bool} {n m : Nat} (hm : m < n) (hL : L.getD m false = true) (hS : S.getD m false = false) (hsz : m < S.size) : missing L (S.setIfInBounds m true) n + 1 = missing L S n :=
  cnt_drop _ _ m (by rw [hL, hS]; rfl) (by simp [hsz]) (fun i hi => by rw [getD_set_ne false (Ne.symm hi)]) n hm

theorem missing_set_L {L S : Array Bool} {n m : Nat} (hm : m < n) (hL : L.getD m false = false) (hS : S.getD m false = false) (hsz : m < L.size) : missing (L.setIfInBounds m true) S n = missing L S n + 1 :=
  (cnt_drop _ _ m (by rw [hS]; simp [hsz]) (by rw [hL]; rfl) (fun i hi => by rw [getD_set_ne false (Ne.symm hi)]) n hm).symm

theorem missing_both {L S : Array Bool} {n m : Nat} (hsL : m < L.size) (hsS : m < S.size) (hL : L.getD m false = false) : missing (L.setIfInBounds m true) (S.setIfInBounds m true) n = missing L S n := by
  unfold missing
  congr 1
  apply List.filter_congr
  intro i _
  by_cases hmi : m = i
  · subst hmi
    simp [hsL, hsS]
    simp [hsL] at hL
    simp [hL]
  · rw [getD_set_ne false hmi, getD_set_ne false hmi]


theorem ready_missing {P : Program} {ops : Array Oper} {pre : Nat → Nat → Bool} {lz rd al : Nat → Bool} (St : Stat ops pre lz rd al) {L S : Array Bool} {a b : Act} {w : World} (I : Inv P ops lz rd L S a b w)
    (m : Nat) : m < ops.size → L.getD m false = true → S.getD m false = false → ∃ q ∈ Region.ready .any ops S, L.getD q false = true := by
  induction m using Nat.strongRecOn with
  | _ m ih =>
    intro hm hL hS
    obtain ⟨om, hom⟩ := ops_some m hm
    by_cases hall : ∀ e ∈ om.after, Region.binds .any e = true → S.getD e.on false = true
    · exact ⟨m, mem_ready.2 ⟨by rw [getD_true_of_false (by rw [I.sizeS]; exact hm)]; exact hS, om, hom, hall⟩, hL⟩
    · have : ∃ e ∈ om.after, Region.binds .any e = true ∧ S.getD e.on false = false := by
        apply Classical.byContradiction
        intro hno
        refine hall fun e he hb => ?_
        cases h : S.getD e.on false with
        | true => rfl
        | false => exact absurd ⟨e, he, hb, h⟩ hno
      obtain ⟨e, he, hb, hSe⟩ := this
      have hlt := St.back m om hom e he hb
      exact ih e.on hlt (by omega) (I.clL m om hom hL e he hb) hSe

theorem missing_zero {P : Program} {ops : Array Oper} {pre : Nat → Nat → Bool} {lz rd al : Nat → Bool} (St : Stat ops pre lz rd al) {L S : Array Bool} {a b : Act} {w : World} (I : Inv P ops lz rd L S a b w)
    (hr : Region.ready .any ops S = []) : ∀ i, i < ops.size → L.getD i false = true → S.getD i false = true := by
  intro i hi hL
  cases hS : S.getD i false with
  | true => rfl
  | false =>
    obtain ⟨q, hq, _⟩ := ready_missing St I i hi hL hS
    rw [hr] at hq
    cases hq

theorem same_of_none {P : Program} {ops : Array Oper} {lz rd : Nat → Bool} {L S : Array Bool} {a b : Act} {w : World} (I : Inv P ops lz rd L S a b w)
    (hall : ∀ i, i < ops.size → L.getD i false = true → S.getD i false = true) : b = a ∧ S = L := by
  refine ⟨act_eq I.defers I.size fun t => I.agree t fun m om hm hL hS => ?_, ?_⟩
  · have := hall m (Array.getElem?_eq_some_iff.1 hm).1 hL
    rw [hS] at this; cases this
  · apply Array.ext (by rw [I.sizeS, I.sizeL])
    intro i h1 h2
    have e1 := I.sub i
    have e2 := hall i (by rw [← I.sizeS]; exact h1)
    simp only [Array.getD_eq_getD_getElem?, h1, h2, Array.getElem?_eq_getElem, Option.getD_some] at e1 e2
    cases hs : S[i] <;> cases hl : L[i] <;> simp_all

theorem stepOk_move {P : Program} {ops : Array Oper} {i : Nat} {o : Oper} {a b : Act} {w : World} (ho : ops[i]? = some o) (hs : ∀ cs bb, o.op ≠ .select cs bb) (hal : alike ops o a b) {R : Act → World → Prop}
    (h : stepOk P ops i a w R) : stepOk P ops i b w fun b' w' => ∃ v, b' = b.put o.dst v ∧ R (a.put o.dst v) w' := by
  unfold stepOk at *
  simp only [ho] at *
  rw [← alike_wanted hal]
  split
  · rename_i hw
    simp only [hw, if_true] at h
    unfold opOk at *
    rw [← alike_exec hs hal]
    generalize (execOp a.eval o).run P w = r at *
    cases r with
    | ok n w' =>
      cases n <;> simp only at h ⊢ <;> first
        | exact ⟨_, rfl, h⟩
        | exact Calls.mono h fun e w'' ⟨v, he, hv⟩ => ⟨v, he, v, rfl, hv⟩
        | exact h
    | halt x w' => exact h
  · rename_i hw
    simp only [hw] at h
    exact ⟨_, rfl, h⟩

theorem okAny_of_tree {P : Program} {ops : Array Oper} {pre : Nat → Nat → Bool} {lz rd al : Nat → Bool} {K : Act → World → Prop} (St : Stat ops pre lz rd al) :
    ∀ (n f : Nat) (L S : Array Bool) (a b : Act) (w : World), 2 * f + missing L S ops.size ≤ n → Inv P ops lz rd L S a b w → tree P ops lz rd al K f L a w → okAny P ops K (f + missing L S ops.size) S b w := by
  intro n
  induction n with
  | zero =>
    intro f L S a b w hn I h
    obtain rfl : f = 0 := by omega
    have hm0 : missing L S ops.size = 0 := by omega
    rw [hm0]
    obtain ⟨hr, hk⟩ := h
    have hall : ∀ i, i < ops.size → L.getD i false = true → S.getD i false = true := by
      intro i hi hL
      cases hS : S.getD i false with
      | true => rfl
      | false =>
        have := missing_set_S hi hL hS (by rw [I.sizeS]; exact hi)
        omega
    obtain ⟨rfl, rfl⟩ := same_of_none I hall
    exact ⟨hr, hk⟩
  | succ n ih =>
    intro f L S a b w hn I h
    have caught : ∀ i ∈ Region.ready .any ops S, L.getD i false = true → ∀ g, f + missing L S ops.size = g + 1 → stepOk P ops i b w (okAny P ops K g (S.setIfInBounds i true)) := by
      intro i hi hL g hg
      obtain ⟨hun, o, ho, _⟩ := mem_ready.1 hi
      have hilt : i < ops.size := (Array.getElem?_eq_some_iff.1 ho).1
      have hSi : S.getD i false = false := by rw [← getD_true_of_false (by rw [I.sizeS]; exact hilt)]; exact hun
      obtain ⟨v, hgv, I'⟩ := I.caught St ho hi hL
      have hms := missing_set_S hilt hL hSi (by rw [I.sizeS]; exact hilt)
      refine gives_step ho hgv ?_
      have := ih f L (S.setIfInBounds i true) a (b.put o.dst v) w (by omega) I' h
      rwa [show f + missing L (S.setIfInBounds i true) ops.size = g by omega] at this
    have inL : ∀ i ∈ Region.ready .any ops S, L.getD i false = false → i ∈ Region.ready .any ops L := by
      intro i hi hL
      obtain ⟨hun, o, ho, hallp⟩ := mem_ready.1 hi
      have hilt : i < ops.size := (Array.getElem?_eq_some_iff.1 ho).1
      exact mem_ready.2 ⟨by rw [getD_true_of_false (by rw [I.sizeL]; exact hilt)]; exact hL, o, ho, fun e he hb => I.sub _ (hallp e he hb)⟩
    cases f with
    | zero =>
      obtain ⟨hr, hk⟩ := h
      have hnr : ∀ i ∈ Region.ready .any ops S, L.getD i false = true := by
        intro i hi
        cases hL : L.getD i false with
        | true => rfl
        | false => have := inL i hi hL; rw [hr] at this; cases this
      cases hrs : Region.ready .any ops S with
      | nil =>
        obtain ⟨rfl, rfl⟩ := same_of_none I (missing_zero St I hrs)
        exact okAny_end hr hk _
      | cons q rest =>
        have hq : q ∈ Region.ready .any ops S := by rw [hrs]; simp
        have hLq := hnr q hq
        obtain ⟨hun, o, ho, _⟩ := mem_ready.1 hq
        have hilt : q < ops.size := (Array.getElem?_eq_some_iff.1 ho).1
        have hSq : S.getD q false = false := by rw [← getD_true_of_false (by rw [I.sizeS]; exact hilt)]; exact hun
        have hms := missing_set_S hilt hLq hSq (by rw [I.sizeS]; exact hilt)
        rw [show (0 : Nat) + missing L S ops.size = missing L (S.setIfInBounds q true) ops.size + 1 by omega]
        refine ⟨fun h0 => ?_, fun i hi => caught i hi (hnr i hi) _ (by omega)⟩
        rw [hrs] at h0; cases h0
    | succ f =>
      rcases h with ⟨i, o, v, hi, hlz, ho, hg, ht⟩ | ⟨hh, hend, hstep⟩
      · have hilt : i < ops.size := (Array.getElem?_eq_some_iff.1 ho).1
        have hLi : L.getD i false = false := by rw [← getD_true_of_false (by rw [I.sizeL]; exact hilt)]; exact (mem_ready.1 hi).1
        have hSi : S.getD i false = false := by
          cases h : S.getD i false with
          | false => rfl
          | true => rw [I.sub i h] at hLi; cases hLi
        have hms := missing_set_L hilt hLi hSi (by rw [I.sizeL]; exact hilt)
        have := ih f (L.setIfInBounds i true) S (a.put o.dst v) b w (by omega) (I.lazily St ho hi hlz hg) ht
        rwa [show f + missing (L.setIfInBounds i true) S ops.size = f + 1 + missing L S ops.size by omega] at this
      · rw [show f + 1 + missing L S ops.size = (f + missing L S ops.size) + 1 by omega]
        refine ⟨fun hrs => ?_, fun i hi => ?_⟩
        · obtain ⟨rfl, rfl⟩ := same_of_none I (missing_zero St I hrs)
          exact hend hrs
        · cases hL : L.getD i false with
          | true => exact caught i hi hL _ (by omega)
          | false =>
            have hiL := inL i hi hL
            obtain ⟨hun, o, ho, _⟩ := mem_ready.1 hi
            have hilt : i < ops.size := (Array.getElem?_eq_some_iff.1 ho).1
            have h1 := stepOk_move (b := b) ho (St.nosel i o · · ho) (alike_ready St I ho hi) (hstep i hiL)
            refine stepOk_mono h1 ?_
            rintro b' w' ⟨v, rfl, hal, ht⟩
            have I' := I.acted St v ho hi hiL (hh i hiL) hal
            have hmb : missing (L.setIfInBounds i true) (S.setIfInBounds i true) ops.size = missing L S ops.size := missing_both (by rw [I.sizeL]; exact hilt) (by rw [I.sizeS]; exact hilt) hL
            have := ih f _ _ _ _ w' (by rw [hmb]; omega) I' ht
            rwa [hmb] at this

/-- THE RULE: a region whose order is drawn, by its tree. -/
theorem wp_of_tree {P : Program} {ops : Array Oper} {pre : Nat → Nat → Bool} {lz rd al : Nat → Bool} {K : Act → World → Prop} {Q : Exit → Act → World → Prop} {id : Nat} {a : Act} {w : World}
    (hm : P.follows .mixedOrders = true) (St : Stat ops pre lz rd al) (hQ : ∀ a w, K a w → Q .normal a w)
    (h : tree P ops lz rd al K ops.size (Array.replicate ops.size false) a w.drew) : (Code.region id ops true).wp P Q a w := by
  refine wp_region_any hm (wpAny_of_okAny hQ _ _ _ _ ?_)
  have hz : ∀ i, (Array.replicate ops.size false).getD i false = false := getD_replicate_false' _
  have hm0 : missing (Array.replicate ops.size false) (Array.replicate ops.size false) ops.size = 0 := by
    unfold missing
    rw [List.length_eq_zero_iff, List.filter_eq_nil_iff]
    intro i _ hb
    simp [hz] at hb
  have := okAny_of_tree (K := K) St _ ops.size (Array.replicate ops.size false) (Array.replicate ops.size false) a a w.drew (Nat.le_refl _)
    ⟨by simp, by simp, fun _ h => h, fun j oj _ hl => absurd hl (by rw [hz]; decide), fun j oj _ hl => absurd hl (by rw [hz]; decide), fun m om _ hl => absurd hl (by rw [hz]; decide), rfl, rfl, fun _ _ => rfl⟩ h
  rw [hm0] at this
  exact this

end Go.Proofs.Ythdmmmfgjmmelaa
