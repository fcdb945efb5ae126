/- append, copy, make, conversions of bytes, calls. Own work. -/
import Derived.Test.YthdmmmfgjmmelaaVcE
namespace Go.Proofs.Ythdmmmfgjmmelaa
open Go
set_option linter.unusedSimpArgs false
set_option linter.unusedVariables false

/-! ### the cells of what is appended or copied -/

/-- k cells from an address that may be none -/
def rdO (w : World) (src : Option Addr) (k : Nat) (K : Array Value → Prop) : Prop :=
  match src with
  | some a => ldA w a k K
  | none => k = 0 ∧ K #[]

theorem rdO_run {P : Program} {w : World} {src : Option Addr} {sz n c : Nat} {K : Array Value → Prop} (h : rdO w src (n * sz) K) : ∃ cs, cs.size = n * sz ∧ (Builtin.firstCells sz n (.slice src n c)).run P w = .ok cs w ∧ (∀ c', (Builtin.firstCells sz n (.slice src n c')).run P w = .ok cs w) ∧ K cs := by
  unfold rdO at h
  split at h
  · obtain ⟨cs, hs, hc, hk⟩ := h
    exact ⟨cs, hs, loadCells_run hs hc, fun _ => loadCells_run hs hc, hk⟩
  · obtain ⟨h0, hk⟩ := h
    exact ⟨#[], by simp [h0], rfl, fun _ => rfl, hk⟩

def strCells (s : ByteArray) (n : Nat) : Array Value := (s.extract 0 n).data.map fun b => .int .u8 b.toNat

/-- what is put: a slice's cells, or a string's bytes -/
def srcK (P : Program) (x : Value) (sz : Nat) (w : World) (n : Nat) (K : Array Value → Prop) : Prop :=
  match x with
  | .slice a _ _ => rdO w a (n * sz) K
  | .string s => sz = 1 ∧ K (strCells s n)
  | _ => False

def srcLen (x : Value) (K : Nat → Prop) : Prop :=
  match x with
  | .slice _ n _ => K n
  | .string s => K s.size
  | _ => False

theorem firstCells_ext {P : Program} {w w' : World} (h : extA w w') {x : Value} {sz n : Nat} {cs : Array Value} (hs : cs.size = n * sz) (hr : ∀ a k c, x = .slice (some a) k c → ∀ j, j < n * sz → w.cell? (a.add j) = cs[j]?)
    (hr2 : ∀ k c, x = .slice none k c → cs = #[]) (hr3 : ∀ s, x = .string s → cs = strCells s n) (hx : ∃ m, Builtin.lenOf x = pure m) : (Builtin.firstCells sz n x).run P w' = .ok cs w' := by
  cases x with
  | slice a k c =>
    cases a with
    | none => rw [hr2 k c rfl]; rfl
    | some a =>
      refine loadCells_run hs fun j hj => ?_
      have h1 := hr a k c rfl j hj
      rw [Array.getElem?_eq_getElem (by omega)] at h1 ⊢
      exact cell_ext h h1
  | string s => rw [hr3 s rfl]; rfl
  | _ => obtain ⟨m, hm⟩ := hx; cases hm

theorem srcK_spec {P : Program} {x : Value} {sz n : Nat} {w : World} {K : Array Value → Prop} (hn : ∃ m, Builtin.lenOf x = pure m ∧ n ≤ m) (h : srcK P x sz w n K) :
    ∃ cs, K cs ∧ (∀ w', extA w w' → (Builtin.firstCells sz n x).run P w' = .ok cs w') := by
  obtain ⟨m, hm, hle⟩ := hn
  unfold srcK at h
  split at h <;> first | exact h.elim | skip
  · rename_i a k c
    unfold rdO at h
    split at h
    · rename_i a
      obtain ⟨cs, hs, hc, hk⟩ := h
      exact ⟨cs, hk, fun w' he => firstCells_ext he hs (fun a' k' c' e => by cases e; exact hc) (fun _ _ e => by cases e) (fun _ e => by cases e) ⟨m, hm⟩⟩
    · exact ⟨#[], h.2, fun w' he => rfl⟩
  · rename_i s
    obtain ⟨h1, hk⟩ := h
    exact ⟨_, hk, fun w' he => rfl⟩

/-! ### append -/

def apK (P : Program) (elem : TypeId) (w : World) (base : Option Addr) (n cap m : Nat) (new : Array Value) (K : Sl → World → Prop) : Prop :=
  withSz P elem fun sz =>
    if n + m ≤ cap then
      match base with
      | some a => stA w (a.add (n * sz)) new fun w' => K ⟨base, n + m, cap⟩ w'
      | none => K ⟨base, n + m, cap⟩ w
    else
      (Builtin.nextslicecap (n + m) cap * P.bytesOf elem ≤ 2 ^ 48 ∧ P.bytesOf elem ≠ 0) ∧ rdO w base (n * sz) fun old =>
        ∀ c, n + m ≤ c → K ⟨newAt w, n + m, c⟩ (w.drew.alloc (.cells (old ++ new ++ ⟨repL (c - (n + m)) (zc P elem).toList⟩) elem))

def sizeOkB (P : Program) (e : TypeId) : Bool := match P.info? e with
  | some i => Nat.beq (zc P e).size i.size
  | none => false

/-- so many noughts, of append(.., make(..)...) -/
def zrK (P : Program) (e : TypeId) (n : Nat) (m : Int) (K : Array Value → Prop) : Prop :=
  (0 ≤ m ∧ m ≤ 9223372036854775807 ∧ m * (P.bytesOf e : Int) ≤ 2 ^ 48 ∧ (n : Int) + m ≤ 9223372036854775807) ∧ K ⟨repL m.toNat (zc P e).toList⟩

def ptAppend (P : Program) (ts : List TypeId) (args : List Value) (w : World) (K : Value → World → Prop) : Prop :=
  match ts, args with
  | t :: t2 :: _, [.slice base n cap, x] =>
    match P.underlying t with
    | some (.slice e) =>
      match P.underlying t2 with
      | some (.int _) => match x with
        | .int _ m => if hasZero P e && sizeOkB P e then zrK P e n m fun new => apK P e w base n cap m.toNat new fun s w' => K (.slice s.a s.len s.cap) w' else False
        | _ => False
      | some _ => if hasZero P e then srcLen x fun m => withSz P e fun sz => srcK P x sz w m fun new => apK P e w base n cap m new fun s w' => K (.slice s.a s.len s.cap) w' else False
      | none => False
    | _ => False
  | _, _ => False

theorem extA_drew (w : World) : extA w w.drew := fun _ _ => rfl

theorem wrap_i64_nn' {x : Int} (h0 : 0 ≤ x) (h1 : x ≤ 9223372036854775807) : IntKind.i64.wrap x = x := by
  simp only [IntKind.wrap, IntKind.bits, IntKind.signed]
  have : x % 2 ^ 64 = x := Int.emod_eq_of_lt h0 (by omega)
  simp [this]
  omega

theorem append_zeros {P : Program} {t t2 e : TypeId} {tr : List TypeId} {ty : TypeId} {base : Option Addr} {n cap : Nat} {kk kx : IntKind} {m : Int} {w : World} {K : Value → World → Prop} (hu : P.underlying t = some (.slice e)) (hu2 : P.underlying t2 = some (.int kk)) (hz : hasZero P e = true) (hso : sizeOkB P e = true)
    (h : zrK P e n m fun new => apK P e w base n cap m.toNat new fun s w' => K (.slice s.a s.len s.cap) w') : ∃ v w', (Builtin.append_ ⟨t :: t2 :: tr⟩ ty ⟨[.slice base n cap, .int kx m]⟩).run P w = .ok v w' ∧ K v w' := by
  obtain ⟨⟨h0, h1, h2, h3⟩, hap⟩ := h
  obtain ⟨i, hi, h⟩ := withSz_some hap
  clear hap
  have hb : (P.bytesOf e) = i.bytes := by simp [Program.bytesOf, hi]
  rw [hb] at h2
  have wm := wrap_i64_nn' h0 h1
  have c1 : ¬ m < 0 := by omega
  have c2 : ¬ m * (i.bytes : Int) > 2 ^ 48 := by omega
  have hsz : (zc P e).size = i.size := by
    unfold sizeOkB at hso
    rw [hi] at hso
    exact Nat.eq_of_beq_eq_true hso
  have hnil : m.toNat * i.size = 0 → (⟨repL m.toNat (zc P e).toList⟩ : Array Value) = #[] := by
    intro h0
    have : repL m.toNat (zc P e).toList = [] := by
      apply List.eq_nil_of_length_eq_zero
      rw [repL_length]; simp [hsz, h0]
    rw [this]
  have happ : ∀ w, (if m.toNat * i.size = 0 then (pure #[] : Sem (Array Value)) else do pure (Builtin.zeroCells (← zeroValue e).cells m.toNat)).run P w = .ok ⟨repL m.toNat (zc P e).toList⟩ w := by
    intro w
    split
    · rename_i h0; rw [hnil h0]; rfl
    · obtain ⟨v, hv, hvc⟩ := zero_run hz w
      simp only [Sem.run_bind, hv, Result.andThen_ok, Sem.run_pure, hvc, zeroCells_eq]
  split at h
  · rename_i hle
    cases base with
    | none =>
      refine ⟨_, w, ?_, h⟩
      unfold Builtin.append_
      simp only [List.getElem?_toArray, List.getElem?_cons_zero, List.getElem?_cons_succ, Sem.run_bind, run_underlying hu, run_underlying hu2, run_sizeOf hi, Result.andThen_ok, asInt, asIntOf, Sem.run_pure, wm, if_neg c1, if_neg c2, run_typeInfo hi, hle, Bool.not_true, Bool.false_eq_true, if_false, if_true, happ]
    | some a =>
      obtain ⟨hc, hst, hk⟩ := h
      have hr := storeCells_run (P := P) (a := a.add (n * i.size)) (repL m.toNat (zc P e).toList) 0 w (fun j hj => by rw [Nat.zero_add]; exact hc j (by simpa using hj)) (fun v hv => hst v (by simpa using hv))
      refine ⟨_, _, ?_, hk⟩
      unfold Builtin.append_
      simp only [List.getElem?_toArray, List.getElem?_cons_zero, List.getElem?_cons_succ, Sem.run_bind, run_underlying hu, run_underlying hu2, run_sizeOf hi, Result.andThen_ok, asInt, asIntOf, Sem.run_pure, wm, if_neg c1, if_neg c2, run_typeInfo hi, hle, Bool.not_true, Bool.false_eq_true, if_false, if_true, happ, hr]
  · rename_i hle
    obtain ⟨⟨hb1, hb2⟩, h⟩ := h
    rw [hb] at hb1 hb2
    obtain ⟨old, ho, hk⟩ : ∃ old, (∀ w', extA w w' → (Builtin.firstCells i.size n (.slice base n cap)).run P w' = .ok old w') ∧ ∀ c, n + m.toNat ≤ c → K (.slice (newAt w) (n + m.toNat) c) (w.drew.alloc (.cells (old ++ ⟨repL m.toNat (zc P e).toList⟩ ++ ⟨repL (c - (n + m.toNat)) (zc P e).toList⟩) e)) := by
      unfold rdO at h
      split at h
      · rename_i a
        obtain ⟨cs, hs, hc, hk⟩ := h
        exact ⟨cs, fun w' he => firstCells_ext he hs (fun a' k' c' e => by cases e; exact hc) (fun _ _ e => by cases e) (fun _ e => by cases e) ⟨n, rfl⟩, hk⟩
      · exact ⟨#[], fun w' he => rfl, h.2⟩
    obtain ⟨v, hv, hvc⟩ := zero_run hz w.drew
    have hb1' : ¬ Builtin.nextslicecap (n + m.toNat) cap * i.bytes > 2 ^ 48 := by omega
    have hb3 : ¬ (((n + m.toNat : Nat) : Int) > IntKind.i64.max ∧ (True ∨ i.bytes = 0)) := by
      have : IntKind.i64.max = 9223372036854775807 := rfl
      rw [this]
      omega
    refine ⟨_, _, ?_, hk (n + m.toNat + w.tape w.drawn (.appendCap (n + m.toNat) cap e) % (2 ^ 63 - (n + m.toNat))) (by omega)⟩
    have hq : (Question.appendCap (n + m.toNat) cap e).forced = false := rfl
    have hcut : (Question.appendCap (n + m.toNat) cap e).cut (w.tape w.drawn (.appendCap (n + m.toNat) cap e)) = n + m.toNat + w.tape w.drawn (.appendCap (n + m.toNat) cap e) % (2 ^ 63 - (n + m.toNat)) := rfl
    have happ2 := happ w.drew
    simp only [zeroCells_eq] at happ2
    unfold Builtin.append_
    simp only [List.getElem?_toArray, List.getElem?_cons_zero, List.getElem?_cons_succ, Sem.run_bind, run_underlying hu, run_underlying hu2, run_sizeOf hi, Result.andThen_ok, asInt, asIntOf, Sem.run_pure, wm, if_neg c1, if_neg c2, run_typeInfo hi, if_neg hle, if_neg hb3, Bool.not_true, Bool.false_eq_true, if_false, if_true, if_neg hb1', run_choose, hq, hcut, run_askRoom, World.drew_eq, ho w.drew (extA_drew w), happ2, hv, hvc, newRow, run_newObj, World.alloc_eq, newAt, World.size_drew, zeroCells_eq]

theorem append_sound {P : Program} {ts : List TypeId} {ty : TypeId} {args : List Value} {w : World} {K : Value → World → Prop} (h : ptAppend P ts args w K) : ∃ v w', (Builtin.append_ ⟨ts⟩ ty ⟨args⟩).run P w = .ok v w' ∧ K v w' := by
  unfold ptAppend at h
  split at h <;> first | exact h.elim | skip
  rename_i t t2 tr base n cap x
  split at h <;> first | exact h.elim | skip
  rename_i e hu
  split at h <;> first | exact h.elim | skip
  · rename_i kk hu2
    split at h <;> first | exact h.elim | skip
    rename_i kx m
    split at h <;> first | exact h.elim | skip
    rename_i hz
    rw [Bool.and_eq_true] at hz
    exact append_zeros hu hu2 hz.1 hz.2 h
  rename_i d2 hni hu2
  split at h <;> first | exact h.elim | skip
  rename_i hz
  have hlen : ∃ m, Builtin.lenOf x = pure m ∧ (withSz P e fun sz => srcK P x sz w m fun new => apK P e w base n cap m new fun s w' => K (.slice s.a s.len s.cap) w') := by
    unfold srcLen at h
    split at h <;> first | exact h.elim | exact ⟨_, rfl, h⟩
  obtain ⟨m, hm, h⟩ := hlen
  obtain ⟨i, hi, h⟩ := withSz_some h
  obtain ⟨new, hap, hnew⟩ := srcK_spec ⟨m, hm, Nat.le_refl _⟩ h
  clear h
  obtain ⟨i', hi', h⟩ := withSz_some hap
  clear hap
  obtain rfl : i = i' := by rw [hi] at hi'; exact (Option.some.inj hi')
  have hnz : (match d2 with | .int _ => true | _ => false) = false := by cases d2 <;> first | rfl | exact (hni _ rfl).elim
  have hb : (P.bytesOf e) = i.bytes := by simp [Program.bytesOf, hi]
  have hlr : ∀ w, (Builtin.lenOf x).run P w = .ok m w := fun w => by rw [hm]; rfl
  split at h
  · rename_i hle
    cases base with
    | none =>
      refine ⟨_, w, ?_, h⟩
      unfold Builtin.append_
      simp [run_underlying hu, run_underlying hu2, run_sizeOf hi, hnz, hlr, hle, hnew w (extA_refl w)]
    | some a =>
      obtain ⟨hc, hst, hk⟩ := h
      have hr := storeCells_run (P := P) (a := a.add (n * i.size)) new.toList 0 w (fun j hj => by rw [Nat.zero_add]; exact hc j (by simpa using hj)) (fun v hv => hst v (by simpa using hv))
      refine ⟨_, _, ?_, hk⟩
      unfold Builtin.append_
      simp [run_underlying hu, run_underlying hu2, run_sizeOf hi, hnz, hlr, hle, hnew w (extA_refl w), hr]
  · rename_i hle
    obtain ⟨⟨hb1, hb2⟩, h⟩ := h
    rw [hb] at hb1 hb2
    obtain ⟨old, ho, hk⟩ : ∃ old, (∀ w', extA w w' → (Builtin.firstCells i.size n (.slice base n cap)).run P w' = .ok old w') ∧ ∀ c, n + m ≤ c → K (.slice (newAt w) (n + m) c) (w.drew.alloc (.cells (old ++ new ++ ⟨repL (c - (n + m)) (zc P e).toList⟩) e)) := by
      unfold rdO at h
      split at h
      · rename_i a
        obtain ⟨cs, hs, hc, hk⟩ := h
        exact ⟨cs, fun w' he => firstCells_ext he hs (fun a' k' c' e => by cases e; exact hc) (fun _ _ e => by cases e) (fun _ e => by cases e) ⟨n, rfl⟩, hk⟩
      · exact ⟨#[], fun w' he => rfl, h.2⟩
    obtain ⟨v, hv, hvc⟩ := zero_run hz w.drew
    have hb1' : ¬ Builtin.nextslicecap (n + m) cap * i.bytes > 2 ^ 48 := by omega
    have hdr : ∀ x, w.drew.drew = x → True := fun _ _ => trivial
    refine ⟨_, _, ?_, hk (n + m + w.tape w.drawn (.appendCap (n + m) cap e) % (2 ^ 63 - (n + m))) (by omega)⟩
    have hq : (Question.appendCap (n + m) cap e).forced = false := rfl
    have hcut : (Question.appendCap (n + m) cap e).cut (w.tape w.drawn (.appendCap (n + m) cap e)) = n + m + w.tape w.drawn (.appendCap (n + m) cap e) % (2 ^ 63 - (n + m)) := rfl
    unfold Builtin.append_
    simp only [List.getElem?_toArray, List.getElem?_cons_zero, List.getElem?_cons_succ, Sem.run_bind, run_underlying hu, run_underlying hu2, run_sizeOf hi, Result.andThen_ok, hlr, run_typeInfo hi, if_neg hle, hnz, Sem.run_pure, Bool.false_eq_true, if_false, false_or, hb2, and_false, if_neg hb1', run_choose, hq, hcut, run_askRoom, World.drew_eq, ho w.drew (extA_drew w), hnew w.drew (extA_drew w), hv, hvc, Bool.not_false, if_true, newRow, run_newObj, World.alloc_eq, newAt, World.size_drew, zeroCells_eq]

/-! ### copy -/

def cpK (w : World) (base : Option Addr) (new : Array Value) (K : World → Prop) : Prop := match base with
  | some a => stA w a new K
  | none => K w

def ptCopy (P : Program) (ts : List TypeId) (args : List Value) (w : World) (K : Value → World → Prop) : Prop :=
  match ts, args with
  | t :: _, [.slice base n _, x] =>
    match P.underlying t with
    | some (.slice e) => srcLen x fun m => withSz P e fun sz => srcK P x sz w (Nat.min m n) fun new => cpK w base new fun w' => K (.int .i64 ((Nat.min m n : Nat) : Int)) w'
    | _ => False
  | _, _ => False

theorem copy_sound {P : Program} {ts : List TypeId} {ty : TypeId} {args : List Value} {w : World} {K : Value → World → Prop} (h : ptCopy P ts args w K) : ∃ v w', (Builtin.copy_ ⟨ts⟩ ty ⟨args⟩).run P w = .ok v w' ∧ K v w' := by
  unfold ptCopy at h
  split at h <;> first | exact h.elim | skip
  rename_i t tr base n c x
  split at h <;> first | exact h.elim | skip
  rename_i e hu
  have hlen : ∃ m, Builtin.lenOf x = pure m ∧ (withSz P e fun sz => srcK P x sz w (Nat.min m n) fun new => cpK w base new fun w' => K (.int .i64 ((Nat.min m n : Nat) : Int)) w') := by
    unfold srcLen at h
    split at h <;> first | exact h.elim | exact ⟨_, rfl, h⟩
  obtain ⟨m, hm, h⟩ := hlen
  obtain ⟨i, hi, h⟩ := withSz_some h
  obtain ⟨new, h, hnew⟩ := srcK_spec ⟨m, hm, Nat.min_le_left _ _⟩ h
  have hlr : ∀ w, (Builtin.lenOf x).run P w = .ok m w := fun w => by rw [hm]; rfl
  cases base with
  | none =>
    refine ⟨_, w, ?_, h⟩
    unfold Builtin.copy_
    simp [run_underlying hu, run_sizeOf hi, hlr, hnew w (extA_refl w), goInt]
  | some a =>
    obtain ⟨hc, hst, hk⟩ := h
    have hr := storeCells_run (P := P) (a := a) new.toList 0 w (fun j hj => by rw [Nat.zero_add]; exact hc j (by simpa using hj)) (fun v hv => hst v (by simpa using hv))
    refine ⟨_, _, ?_, hk⟩
    unfold Builtin.copy_
    simp [run_underlying hu, run_sizeOf hi, hlr, hnew w (extA_refl w), hr, goInt]

/-! ### make -/

def mkK (P : Program) (elem : TypeId) (w : World) (l c : Int) (K : Sl → World → Prop) : Prop :=
  (0 ≤ l ∧ l ≤ c ∧ c ≤ 9223372036854775807 ∧ (P.bytesOf elem : Int) * c ≤ 2 ^ 48) ∧
    K ⟨newAt w, l.toNat, c.toNat⟩ (w.alloc (.cells ⟨repL c.toNat (zc P elem).toList⟩ elem))

def ptMake (P : Program) (t : TypeId) (l c : Value) (w : World) (K : Value → World → Prop) : Prop :=
  match P.underlying t, l, c with
  | some (.slice e), .int _ l, .int _ c => if hasZero P e then withSz P e fun sz => if (zc P e).size = sz then mkK P e w l c fun s w' => K (.slice s.a s.len s.cap) w' else False else False
  | _, _, _ => False

theorem wrap_i64_nn {x : Int} (h0 : 0 ≤ x) (h1 : x ≤ 9223372036854775807) : IntKind.i64.wrap x = x := by
  simp only [IntKind.wrap, IntKind.bits, IntKind.signed]
  have : x % 2 ^ 64 = x := Int.emod_eq_of_lt h0 (by omega)
  simp [this]
  omega

theorem make_sound {P : Program} {t : TypeId} {l c : Value} {w : World} {K : Value → World → Prop} (h : ptMake P t l c w K) : ∃ v w', (Instr.makeSlice t l c).run P w = .ok v w' ∧ extA w w' ∧ K v w' := by
  unfold ptMake at h
  split at h <;> first | exact h.elim | skip
  rename_i e kl l kc c hu
  split at h <;> first | exact h.elim | skip
  rename_i hz
  obtain ⟨i, hi, h⟩ := withSz_some h
  split at h <;> first | exact h.elim | skip
  rename_i hsz
  obtain ⟨⟨h0, h1, h2, h3⟩, hk⟩ := h
  have hb : (P.bytesOf e) = i.bytes := by simp [Program.bytesOf, hi]
  rw [hb] at h3
  obtain ⟨v, hv, hvc⟩ := zero_run hz w
  refine ⟨_, _, ?_, extA_alloc _ _, hk⟩
  have wl := wrap_i64_nn h0 (show l ≤ _ by omega)
  have wc := wrap_i64_nn (show 0 ≤ c by omega) h2
  have c1 : ¬ c < 0 := by omega
  have c2 : ¬ ((i.bytes : Int) * c > 2 ^ 48) := by omega
  have c3 : ¬ l < 0 := by omega
  have c4 : ¬ l > c := by omega
  unfold Instr.makeSlice
  simp only [Sem.run_bind, run_underlying hu, Result.andThen_ok, asInt, asIntOf, Sem.run_pure, run_typeInfo hi, wl, wc, c1, c2, c3, c4, decide_false, Bool.or_false, Bool.false_or, Bool.or_self, Bool.false_eq_true, if_false, run_sizeOf hi]
  by_cases hn : c.toNat * i.size = 0
  · have e1 : repL c.toNat (zc P e).toList = [] := by
      apply List.eq_nil_of_length_eq_zero
      rw [repL_length]; simp [hsz, hn]
    have e3 : Array.range 0 = #[] := rfl
    simp [hn, e1, newRow, newAt, e3]
  · have e2 : (Array.range (c.toNat * i.size)).map (fun x => (zc P e)[x % (zc P e).size]!) = ⟨repL c.toNat (zc P e).toList⟩ := rep_eq _ _ _ (by rw [hsz])
    simp only [hn, if_false, Sem.run_bind, hv, Result.andThen_ok, Sem.run_pure, hvc, e2, newRow, run_newObj, World.alloc_eq, run_askRoom, newAt]

/-! ### bytes and strings -/

/-- the bytes of a slice as a string -/
def btS (w : World) (a : Option Addr) (n : Nat) (K : ByteArray → Prop) : Prop :=
  match a with
  | none => K ⟨#[]⟩
  | some a => ∃ l : List UInt8, l.length = n ∧ (∀ j, j < n → w.cell? (a.add j) = (l[j]?).map fun b => Value.int .u8 (b.toNat : Int)) ∧ K ⟨⟨l⟩⟩

/-- a string as new bytes: in memory of its own -/
def stB (w : World) (e : TypeId) (s : ByteArray) (K : Sl → World → Prop) : Prop :=
  ∀ c, s.size ≤ c → K ⟨newAt w, s.size, c⟩ ((w.drew.alloc (.cells ⟨(s.data.toList.map fun b => Value.int .u8 (b.toNat : Int)) ++ repL (c - s.size) [.int .u8 0]⟩ e)).freeze ⟨w.heap.size, c, none⟩ 1)

/-- constant bytes: the cell behind them is marked -/
def mkStr (w : World) (a : Option Addr) (K : World → Prop) : Prop := nz a fun a => ∃ e n, w.shape? a.block = some (e, n) ∧ K (w.freeze ⟨a.block, n, none⟩ 1)

def ptConvH (P : Program) (src dst : TypeId) (x : Value) (w : World) (K : Value → World → Prop) : Prop :=
  match P.underlying src, P.underlying dst, x with
  | some (.slice e), some .string, .slice a n _ =>
    match P.underlying e with
    | some (.int .u8) => btS w a n fun s => K (.string s) w
    | _ => False
  | some .string, some (.slice e), .string s =>
    match P.underlying e with
    | some (.int .u8) => stB w e s fun sl w' => K (.slice sl.a sl.len sl.cap) w'
    | _ => False
  | some (.slice _), some (.slice e), .slice a n c =>
    match Nat.beq src dst, P.underlying e with
    | true, some (.int .u8) => mkStr w a fun w' => K (.slice a n c) w'
    | _, _ => False
  | _, _, _ => False

theorem forIn_bytes {P : Program} (f : Value → ByteArray → Sem (ForInStep ByteArray)) (hf : ∀ n s, f (.int .u8 n) s = pure (ForInStep.yield (s.push (UInt8.ofNat n.toNat)))) (l : List UInt8) : ∀ (s : ByteArray) (w : World),
    (forIn (m := Sem) (l.map fun b => Value.int .u8 (b.toNat : Int)) s f).run P w = .ok ⟨s.data ++ ⟨l⟩⟩ w := by
  induction l with
  | nil => intro s w; simp
  | cons b r ih =>
    intro s w
    rw [List.map_cons, List.forIn_cons]
    simp only [hf, Sem.run_bind, Sem.run_pure, Result.andThen_ok]
    rw [ih]
    have e : UInt8.ofNat (b.toNat : Int).toNat = b := by simp
    rw [e]
    congr 2
    apply Array.ext'
    simp [ByteArray.push]

theorem toString_run {P : Program} {w : World} {a : Option Addr} {n c : Nat} {K : ByteArray → Prop} (h : btS w a n K) : ∃ s, (Conv.bytesToString (.slice a n c)).run P w = .ok (.string s) w ∧ K s := by
  unfold btS at h
  split at h
  · exact ⟨_, rfl, h⟩
  · rename_i a
    obtain ⟨l, hl, hc, hk⟩ := h
    refine ⟨_, ?_, hk⟩
    have hr : (loadCells a n).run P w = .ok (l.map fun b => Value.int .u8 (b.toNat : Int)).toArray w := loadCells_run (by simp [hl]) fun j hj => by
      rw [hc j hj]; simp
    unfold Conv.bytesToString
    simp only [Sem.run_bind, hr, Result.andThen_ok, List.forIn_toArray]
    rw [forIn_bytes _ (fun _ _ => rfl)]
    have e0 : (⟨ByteArray.empty.data ++ ⟨l⟩⟩ : ByteArray) = ⟨⟨l⟩⟩ := by
      show (⟨#[] ++ ⟨l⟩⟩ : ByteArray) = ⟨⟨l⟩⟩
      rw [Array.empty_append]
    rw [e0]
    rfl

theorem convH_sound {P : Program} {src dst : TypeId} {x : Value} {w : World} {K : Value → World → Prop} (h : ptConvH P src dst x w K) : ∃ v w', (convert src dst x).run P w = .ok v w' ∧ K v w' := by
  unfold ptConvH at h
  split at h <;> first | exact h.elim | skip
  · rename_i e a n c hu hd
    split at h <;> first | exact h.elim | skip
    rename_i he
    obtain ⟨s, hs, hk⟩ := toString_run (c := c) h
    refine ⟨_, _, ?_, hk⟩
    unfold convert
    rw [Sem.run_bind, run_underlying hu, Result.andThen_ok, Sem.run_bind, run_underlying hd, Result.andThen_ok]
    show ((do match ← underlying e with
      | .int .u8 => Conv.bytesToString (.slice a n c)
      | .int .i32 => Conv.runesToString (.slice a n c)
      | _ => stuck "Convert: a slice of what to string?" : Sem Value)).run P w = _
    rw [Sem.run_bind, run_underlying he, Result.andThen_ok]
    exact hs
  · rename_i e s hu hd
    split at h <;> first | exact h.elim | skip
    rename_i he
    refine ⟨_, _, ?_, h (s.size + w.tape w.drawn (.appendCap s.size 0 e) % (2 ^ 63 - s.size)) (by omega)⟩
    unfold convert
    rw [Sem.run_bind, run_underlying hu, Result.andThen_ok, Sem.run_bind, run_underlying hd, Result.andThen_ok]
    show ((do match ← underlying e with
      | .int .u8 => Conv.stringToBytes e s
      | .int .i32 => Conv.stringToRunes e s
      | _ => stuck "Convert: string to a slice of what?" : Sem Value)).run P w = _
    rw [Sem.run_bind, run_underlying he, Result.andThen_ok]
    have hq : (Question.appendCap s.size 0 e).forced = false := rfl
    have hcut : (Question.appendCap s.size 0 e).cut (w.tape w.drawn (.appendCap s.size 0 e)) = s.size + w.tape w.drawn (.appendCap s.size 0 e) % (2 ^ 63 - s.size) := rfl
    have hrep : ∀ k, (repL k [Value.int .u8 0]) = List.replicate k (Value.int .u8 0) := by
      intro k
      induction k with
      | zero => rfl
      | succ k ih => simp [repL, ih, List.replicate_succ]
    have hcells : (s.data.map (fun b => Value.int .u8 (b.toNat : Int)) ++ Array.replicate (s.size + w.tape w.drawn (.appendCap s.size 0 e) % (2 ^ 63 - s.size) - s.size) (.int .u8 0) : Array Value) =
        ⟨(s.data.toList.map fun b => Value.int .u8 (b.toNat : Int)) ++ repL (s.size + w.tape w.drawn (.appendCap s.size 0 e) % (2 ^ 63 - s.size) - s.size) [.int .u8 0]⟩ := by
      apply Array.ext'
      simp [hrep]
    show (Conv.stringToBytes e s).run P w = _
    unfold Conv.stringToBytes
    simp only [Sem.run_bind, run_choose, hq, hcut, Bool.false_eq_true, if_false, Result.andThen_ok, newRow, run_newObj, Sem.run_pure, World.drew_eq, hcells, World.alloc_eq]
    have hsh : ∀ (cs : Array Value), (w.drew.alloc (.cells cs e)).shape? w.drew.heap.size = some (e, cs.size) := fun cs => by
      have : (w.drew.heap.push (Obj.cells cs e))[w.drew.heap.size]? = some (.cells cs e) := Array.getElem?_push_size
      simp only [World.shape?, World.alloc, this]
    simp only [markStringish, Sem.run_bind, run_shape, Result.andThen_ok, hsh, run_freeze, Sem.run_pure]
    have hl : ((⟨(s.data.toList.map fun b => Value.int .u8 (b.toNat : Int)) ++ repL (s.size + w.tape w.drawn (.appendCap s.size 0 e) % (2 ^ 63 - s.size) - s.size) [.int .u8 0]⟩ : Array Value)).size = s.size + w.tape w.drawn (.appendCap s.size 0 e) % (2 ^ 63 - s.size) := by
      have hsz : s.data.toList.length = s.size := by rw [Array.length_toList]; rfl
      rw [List.size_toArray, List.length_append, List.length_map, repL_length, hsz, List.length_singleton]
      omega
    rw [hl]
    rfl
  · rename_i e0 e a n c hu hd
    split at h <;> first | exact h.elim | skip
    rename_i hsd he
    have hsd := Nat.eq_of_beq_eq_true hsd
    subst hsd
    unfold mkStr nz at h
    split at h <;> first | exact h.elim | skip
    rename_i a
    obtain ⟨e1, n1, hsh, hk⟩ := h
    refine ⟨_, _, ?_, hk⟩
    unfold convert
    rw [Sem.run_bind, run_underlying hu, Result.andThen_ok, Sem.run_bind, run_underlying hd, Result.andThen_ok]
    show ((do match src == src, ← underlying e with
      | true, .int .u8 => do markStringish a; pure (.slice (some a) n c)
      | _, _ => unsupported (.noEntry "convert/other") : Sem Value)).run P w = _
    rw [Sem.run_bind, run_underlying he, Result.andThen_ok, beq_self_eq_true]
    simp [markStringish, hsh]

end Go.Proofs.Ythdmmmfgjmmelaa
