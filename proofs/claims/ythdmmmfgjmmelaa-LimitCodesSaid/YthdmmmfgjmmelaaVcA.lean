/- The ground of the proofs: what an operation, a region and a piece of code of the program come to, as a predicate that the kernel reckons out; every rule proved over the model. Own work. -/
import Derived.Orders
import Derived.KernelRfl
import Derived.Laws.World
namespace Go.Proofs.Ythdmmmfgjmmelaa
open Go

/-! ### 1. A run of the model's operations that ends well -/

def storable : Value → Prop
  | .agg _ => False
  | .tuple _ => False
  | _ => True

def isRow : Obj → Bool
  | .cells .. => true
  | _ => false

def wps (P : Program) {α : Type} : Sem α → World → (α → World → Prop) → Prop
  | .pure a, w, K => K a w
  | .load _ a k, w, K => ∃ v, w.cell? a = some v ∧ wps P (k v) w K
  | .store _ a v k, w, K => storable v ∧ (∃ u, w.cell? a = some u) ∧ w.frozen? a = false ∧ wps P k (w.setCell a v) K
  | .new o k, w, K => wps P (k w.heap.size) (w.alloc o) K
  | .shape r k, w, K => wps P (k (w.shape? r)) w K
  | .freeze a n k, w, K => wps P k (w.freeze a n) K
  | .frozen a k, w, K => wps P (k (w.frozen? a)) w K
  | .getObj r k, w, K => ∃ o, w.heap[r]? = some o ∧ isRow o = false ∧ wps P (k o) w K
  | .setObj r o k, w, K => (∃ o', w.heap[r]? = some o' ∧ isRow o' = false) ∧ wps P k { w with heap := w.heap.setIfInBounds r o } K
  | .choose q k, w, K => if q.forced then wps P (k 0) w K else wps P (k (q.cut (w.tape w.drawn q))) w.drew K
  | .sys _ _, _, _ => False
  | .program k, w, K => wps P (k P) w K
  | .mark _ k, w, K => wps P k w K
  | .halt _, _, _ => False

theorem wps_run {P : Program} {α : Type} (s : Sem α) : ∀ (w : World) (K : α → World → Prop), wps P s w K → ∃ a w', s.run P w = .ok a w' ∧ K a w' := by
  induction s with
  | pure a => intro w K h; exact ⟨a, w, rfl, h⟩
  | load m a k ih =>
    intro w K h
    obtain ⟨v, hv, h⟩ := h
    obtain ⟨b, w', hr, hk⟩ := ih v w K h
    exact ⟨b, w', by simp only [Sem.run, hv]; exact hr, hk⟩
  | store m a v k ih =>
    intro w K h
    obtain ⟨hs, ⟨u, hu⟩, hf, h⟩ := h
    obtain ⟨b, w', hr, hk⟩ := ih _ K h
    refine ⟨b, w', ?_, hk⟩
    cases v <;> first | exact hs.elim | (simp only [Sem.run, hu, hf]; exact hr)
  | new o k ih =>
    intro w K h
    obtain ⟨b, w', hr, hk⟩ := ih _ _ K h
    exact ⟨b, w', hr, hk⟩
  | shape r k ih =>
    intro w K h
    obtain ⟨b, w', hr, hk⟩ := ih _ _ K h
    exact ⟨b, w', hr, hk⟩
  | freeze a n k ih =>
    intro w K h
    obtain ⟨b, w', hr, hk⟩ := ih _ K h
    exact ⟨b, w', hr, hk⟩
  | frozen a k ih =>
    intro w K h
    obtain ⟨b, w', hr, hk⟩ := ih _ _ K h
    exact ⟨b, w', hr, hk⟩
  | getObj r k ih =>
    intro w K h
    obtain ⟨o, ho, hn, h⟩ := h
    obtain ⟨b, w', hr, hk⟩ := ih o w K h
    refine ⟨b, w', ?_, hk⟩
    cases o <;> first | (simp [isRow] at hn; done) | (simp only [Sem.run, ho]; exact hr)
  | setObj r o k ih =>
    intro w K h
    obtain ⟨⟨o', ho, hn⟩, h⟩ := h
    obtain ⟨b, w', hr, hk⟩ := ih _ K h
    refine ⟨b, w', ?_, hk⟩
    cases o' <;> first | (simp [isRow] at hn; done) | (simp only [Sem.run, ho]; exact hr)
  | choose q k ih =>
    intro w K h
    simp only [wps] at h
    split at h
    · rename_i hf
      obtain ⟨b, w', hr, hk⟩ := ih _ _ K h
      exact ⟨b, w', by simp only [Sem.run, hf, if_true]; exact hr, hk⟩
    · rename_i hf
      obtain ⟨b, w', hr, hk⟩ := ih _ _ K h
      exact ⟨b, w', by simp only [Sem.run, hf]; exact hr, hk⟩
  | sys c k => intro w K h; exact h.elim
  | program k ih =>
    intro w K h
    obtain ⟨b, w', hr, hk⟩ := ih _ _ K h
    exact ⟨b, w', hr, hk⟩
  | mark m k ih =>
    intro w K h
    obtain ⟨b, w', hr, hk⟩ := ih _ K h
    exact ⟨b, w', hr, hk⟩
  | halt h0 => intro w K h; exact h.elim

theorem wps_of_run {P : Program} {α : Type} (s : Sem α) : ∀ (w : World) (K : α → World → Prop) (a : α) (w' : World), wps P s w (fun b w2 => b = a ∧ w2 = w') → K a w' → wps P s w K := by
  induction s with
  | pure a => intro w K b w' h hk; obtain ⟨rfl, rfl⟩ := h; exact hk
  | load m a k ih => intro w K b w' h hk; obtain ⟨v, hv, h⟩ := h; exact ⟨v, hv, ih v w K b w' h hk⟩
  | store m a v k ih => intro w K b w' h hk; obtain ⟨hs, hu, hf, h⟩ := h; exact ⟨hs, hu, hf, ih _ K b w' h hk⟩
  | new o k ih => intro w K b w' h hk; exact ih _ _ K b w' h hk
  | shape r k ih => intro w K b w' h hk; exact ih _ _ K b w' h hk
  | freeze a n k ih => intro w K b w' h hk; exact ih _ K b w' h hk
  | frozen a k ih => intro w K b w' h hk; exact ih _ _ K b w' h hk
  | getObj r k ih => intro w K b w' h hk; obtain ⟨o, ho, hn, h⟩ := h; exact ⟨o, ho, hn, ih o w K b w' h hk⟩
  | setObj r o k ih => intro w K b w' h hk; obtain ⟨ho, h⟩ := h; exact ⟨ho, ih _ K b w' h hk⟩
  | choose q k ih =>
    intro w K b w' h hk
    simp only [wps] at h ⊢
    split at h
    · rename_i hf; simp only [hf, if_true]; exact ih _ _ K b w' h hk
    · rename_i hf; simp only [hf]; exact ih _ _ K b w' h hk
  | sys c k => intro w K b w' h hk; exact h.elim
  | program k ih => intro w K b w' h hk; exact ih _ _ K b w' h hk
  | mark m k ih => intro w K b w' h hk; exact ih _ K b w' h hk
  | halt h0 => intro w K b w' h hk; exact h.elim

theorem wps_mono {P : Program} {α : Type} (s : Sem α) : ∀ {w : World} {K K' : α → World → Prop}, wps P s w K → (∀ a w', K a w' → K' a w') → wps P s w K' := by
  induction s with
  | pure a => intro w K K' h hk; exact hk _ _ h
  | load m a k ih => intro w K K' h hk; obtain ⟨v, hv, h⟩ := h; exact ⟨v, hv, ih v h hk⟩
  | store m a v k ih => intro w K K' h hk; obtain ⟨hs, hu, hf, h⟩ := h; exact ⟨hs, hu, hf, ih h hk⟩
  | new o k ih => intro w K K' h hk; exact ih _ h hk
  | shape r k ih => intro w K K' h hk; exact ih _ h hk
  | freeze a n k ih => intro w K K' h hk; exact ih h hk
  | frozen a k ih => intro w K K' h hk; exact ih _ h hk
  | getObj r k ih => intro w K K' h hk; obtain ⟨o, ho, hn, h⟩ := h; exact ⟨o, ho, hn, ih o h hk⟩
  | setObj r o k ih => intro w K K' h hk; obtain ⟨ho, h⟩ := h; exact ⟨ho, ih h hk⟩
  | choose q k ih =>
    intro w K K' h hk
    simp only [wps] at h ⊢
    split at h
    · rename_i hf; simp only [hf, if_true]; exact ih _ h hk
    · rename_i hf; simp only [hf]; exact ih _ h hk
  | sys c k => intro w K K' h hk; exact h.elim
  | program k ih => intro w K K' h hk; exact ih _ h hk
  | mark m k ih => intro w K K' h hk; exact ih h hk
  | halt h0 => intro w K K' h hk; exact h.elim

theorem wps_bind {P : Program} {α β : Type} (s : Sem α) (f : α → Sem β) : ∀ {w : World} {K : β → World → Prop}, wps P s w (fun a w' => wps P (f a) w' K) → wps P (s >>= f) w K := by
  show ∀ {w : World} {K : β → World → Prop}, wps P s w (fun a w' => wps P (f a) w' K) → wps P (Sem.bind s f) w K
  induction s with
  | pure a => intro w K h; exact h
  | load m a k ih => intro w K h; obtain ⟨v, hv, h⟩ := h; exact ⟨v, hv, ih v h⟩
  | store m a v k ih => intro w K h; obtain ⟨hs, hu, hf, h⟩ := h; exact ⟨hs, hu, hf, ih h⟩
  | new o k ih => intro w K h; exact ih _ h
  | shape r k ih => intro w K h; exact ih _ h
  | freeze a n k ih => intro w K h; exact ih h
  | frozen a k ih => intro w K h; exact ih _ h
  | getObj r k ih => intro w K h; obtain ⟨o, ho, hn, h⟩ := h; exact ⟨o, ho, hn, ih o h⟩
  | setObj r o k ih => intro w K h; obtain ⟨ho, h⟩ := h; exact ⟨ho, ih h⟩
  | choose q k ih =>
    intro w K h
    simp only [wps] at h
    simp only [Sem.bind, wps]
    split at h
    · rename_i hf; simp only [hf, if_true]; exact ih _ h
    · rename_i hf; simp only [hf]; exact ih _ h
  | sys c k => intro w K h; exact h.elim
  | program k ih => intro w K h; exact ih _ h
  | mark m k ih => intro w K h; exact ih h
  | halt h0 => intro w K h; exact h.elim

/-! ### 2. One operation that ends well, and its place in a region -/

def opOk (P : Program) (o : Oper) (ρ : Operand → Value) (w : World) (K : Value → World → Prop) : Prop :=
  match (execOp ρ o).run P w with
  | .ok (.value v) w' => K v w'
  | .ok .skip w' => K undef w'
  | .ok (.enter f args) w' => Calls P f args w' fun e w'' => ∃ v, e = .returned v ∧ K v w''
  | _ => False

theorem opOk_mono {P : Program} {o : Oper} {ρ : Operand → Value} {w : World} {K K' : Value → World → Prop} (h : opOk P o ρ w K) (hk : ∀ v w', K v w' → K' v w') : opOk P o ρ w K' := by
  unfold opOk at *
  generalize (execOp ρ o).run P w = r at *
  cases r with
  | ok n w' =>
    cases n <;> simp only at h ⊢ <;> first
      | exact hk _ _ h
      | exact Calls.mono h fun e w'' ⟨v, he, hv⟩ => ⟨v, he, hk _ _ hv⟩
      | exact h
  | halt x w' => exact h

theorem opOk_wp {P : Program} {o : Oper} {a : Act} {w : World} {next : Act → World → Prop} {Q : Exit → Act → World → Prop}
    (h : opOk P o a.eval w fun v w' => next (a.put o.dst v) w') : o.wp P a w next Q := by
  unfold opOk at h
  unfold Oper.wp
  generalize (execOp a.eval o).run P w = r at *
  cases r with
  | ok n w' =>
    cases n <;> simp only [Oper.upon] at h ⊢ <;> first
      | exact h
      | exact Calls.mono h fun e w'' ⟨v, he, hv⟩ => by subst he; exact hv
  | halt x w' => exact h.elim

/-- What an operation comes to as a piece of 'wps'. -/
def nextK (P : Program) (K : Value → World → Prop) : Next → World → Prop
  | .value v, w => K v w
  | .skip, w => K undef w
  | .enter f args, w => Calls P f args w fun e w'' => ∃ v, e = .returned v ∧ K v w''
  | _, _ => False

theorem opOk_of_wps {P : Program} {o : Oper} {ρ : Operand → Value} {w : World} {K : Value → World → Prop} (h : wps P (execOp ρ o) w (nextK P K)) : opOk P o ρ w K := by
  obtain ⟨n, w', hr, hk⟩ := wps_run _ _ _ h
  unfold opOk
  rw [hr]
  cases n <;> first | exact hk | exact hk.elim

def stepOk (P : Program) (ops : Array Oper) (i : Nat) (a : Act) (w : World) (K : Act → World → Prop) : Prop :=
  match ops[i]? with
  | none => K a w
  | some o => if Region.wanted o (yielded ops a.tmps) then opOk P o a.eval w (fun v w' => K (a.put o.dst v) w') else K (a.put o.dst undef) w

theorem stepOk_mono {P : Program} {ops : Array Oper} {i : Nat} {a : Act} {w : World} {K K' : Act → World → Prop} (h : stepOk P ops i a w K) (hk : ∀ a w, K a w → K' a w) : stepOk P ops i a w K' := by
  unfold stepOk at *
  split
  · rename_i ho; simp only [ho] at h; exact hk _ _ h
  · rename_i o ho
    simp only [ho] at h
    split
    · rename_i hw; simp only [hw, if_true] at h; exact opOk_mono h fun _ _ => hk _ _
    · rename_i hw; simp only [hw] at h; exact hk _ _ h

theorem wpOp_of_stepOk {P : Program} {ops : Array Oper} {Q : Exit → Act → World → Prop} {i : Nat} {a : Act} {w : World} {K : Act → World → Prop} (h : stepOk P ops i a w K) : wpOp P ops Q i K a w := by
  unfold stepOk at h
  unfold wpOp
  split
  · rename_i ho; simp only [ho] at h; exact h
  · rename_i o ho
    simp only [ho] at h
    split
    · rename_i hw; simp only [hw, if_true] at h; exact .inl (opOk_wp h)
    · rename_i hw; simp only [hw] at h; exact h

def opsOk (P : Program) (ops : Array Oper) : List Nat → Act → World → (Act → World → Prop) → Prop
  | [], a, w, K => K a w
  | i :: rest, a, w, K => stepOk P ops i a w fun a w => opsOk P ops rest a w K

theorem wpOps_of_opsOk {P : Program} {ops : Array Oper} {Q : Exit → Act → World → Prop} {K : Act → World → Prop} (hQ : ∀ a w, K a w → Q .normal a w) :
    ∀ (l : List Nat) (a : Act) (w : World), opsOk P ops l a w K → wpOps P ops Q l a w := by
  intro l
  induction l with
  | nil => intro a w h; exact hQ _ _ h
  | cons i rest ih =>
    intro a w h
    rw [wpOps_cons]
    exact wpOp_mono (fun a w h => ih a w h) (wpOp_of_stepOk h)

/-! ### 3. What slots hold -/

def ev (ρ : Nat → Value) : Operand → Value
  | .tmp t => ρ t
  | .const v => v
  | .global g => .pointer (some ⟨g, 0, none⟩)
  | .func f => .func (.func f) #[] #[]

def upd (ρ : Nat → Value) (d : Nat) (v : Value) : Nat → Value := fun t => if t = d then v else ρ t

def putR (ρ : Nat → Value) (d : Option Nat) (v : Value) : Nat → Value :=
  match d with
  | some d => upd ρ d v
  | none => ρ

def rel (N : Nat) (a : Act) (ρ : Nat → Value) : Prop := a.defers = [] ∧ a.tmps.size = N ∧ (fun t => a.tmps.getD t undef) = ρ

theorem rel_eval {N : Nat} {a : Act} {ρ : Nat → Value} (h : rel N a ρ) : a.eval = ev ρ := by
  funext x
  cases x with
  | tmp t => exact congrFun h.2.2 t
  | _ => rfl

theorem rel_put {N : Nat} {a : Act} {ρ : Nat → Value} (h : rel N a ρ) {d : Option Nat} (hd : ∀ t, d = some t → t < N) (v : Value) : rel N (a.put d v) (putR ρ d v) := by
  cases d with
  | none => exact h
  | some t =>
    obtain ⟨h1, h2, h3⟩ := h
    refine ⟨h1, by simp [Act.put, h2], ?_⟩
    funext s
    have ht := hd t rfl
    simp only [Act.put, putR, upd]
    by_cases hs : s = t
    · subst hs
      have : s < a.tmps.size := by omega
      simp [this]
    · have := congrFun h3 s
      simp only [if_neg hs]
      rw [← this]
      simp only [Array.getD_eq_getD_getElem?]
      rw [Array.getElem?_setIfInBounds_ne (fun h => hs h.symm)]

end Go.Proofs.Ythdmmmfgjmmelaa
