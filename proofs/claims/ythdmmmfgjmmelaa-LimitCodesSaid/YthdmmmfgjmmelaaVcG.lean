/- Calls; each operation; regions; code. The rule that the kernel reckons by, and its proof. Own work. -/
import Derived.Test.YthdmmmfgjmmelaaVcF
namespace Go.Proofs.Ythdmmmfgjmmelaa
open Go
set_option linter.unusedSimpArgs false
set_option linter.unusedVariables false

/-! ### calls -/

def exV (P : Program) (t : TypeId) (F : Value → Prop) : Prop :=
  match P.underlying t with
  | some (.int k) => ∃ n : Int, F (.int k n)
  | some .bool => ∃ n : Bool, F (.bool n)
  | some .string => ∃ n : ByteArray, F (.string n)
  | some (.pointer _) => ∃ n : Option Addr, F (.pointer n)
  | some (.slice _) => ∃ n : Sl, F (.slice n.a n.len n.cap)
  | some (.map _ _) => ∃ n : Option Nat, F (.map n)
  | some (.struct _) => ∃ n : Array Value, F (.agg n)
  | some (.array _ _) => ∃ n : Array Value, F (.agg n)
  | some (.interface _) => ∃ n : Nat × Value, F (.iface n.1 n.2)
  | some _ => ∃ n : Value, F n
  | none => False

theorem exV_some {P : Program} {t : TypeId} {F : Value → Prop} (h : exV P t F) : ∃ v, F v := by
  unfold exV at h
  split at h <;> first | exact h.elim | (obtain ⟨n, h⟩ := h; exact ⟨_, h⟩)

def exVs (P : Program) : List TypeId → (List Value → Prop) → Prop
  | [], F => F []
  | t :: r, F => exV P t fun v => exVs P r fun vs => F (v :: vs)

theorem exVs_some {P : Program} : ∀ (ts : List TypeId) {F : List Value → Prop}, exVs P ts F → ∃ v, F v
  | [], _, h => ⟨_, h⟩
  | t :: r, F, h => by
    obtain ⟨v, h⟩ := exV_some (P := P) (t := t) (F := fun v => exVs P r fun vs => F (v :: vs)) h
    obtain ⟨vs, h⟩ := exVs_some r h
    exact ⟨_, h⟩

def exRes (P : Program) (t : TypeId) (F : Value → Prop) : Prop :=
  match P.underlying t with
  | some (.tuple ts) => exVs P ts.toList fun vs => F (.tuple ⟨vs⟩)
  | _ => exV P t F

theorem exRes_some {P : Program} {t : TypeId} {F : Value → Prop} (h : exRes P t F) : ∃ v, F v := by
  unfold exRes at h
  split at h
  · obtain ⟨vs, h⟩ := exVs_some _ h; exact ⟨_, h⟩
  · exact exV_some h

def plainF (P : Program) (f : FuncId) : Bool :=
  match P.funcs[f]? with
  | some fn => !(fn.name == "runtime.NumGoroutine") && fn.body.isSome
  | none => false

def callK (P : Program) (f : FuncId) (args : List Value) (t : TypeId) (w : World) (K : Value → World → Prop) : Prop :=
  match plainF P f with
  | true => Calls P f ⟨args⟩ w fun e w' => exRes P t fun v => e = .returned v ∧ K v w'
  | false => False

def callV (P : Program) (fv : Value) (args : List Value) (t : TypeId) (w : World) (K : Value → World → Prop) : Prop :=
  match fv with
  | .func (.func f) first cap => callK P f ((first.toList ++ args) ++ cap.toList) t w K
  | _ => False

theorem callFunc_run {P : Program} {f : FuncId} {args : Array Value} (h : plainF P f = true) (w : World) : (callFunc f args).run P w = .ok (.enter f args) w := by
  unfold plainF at h
  split at h
  · rename_i fn hf
    simp only [Bool.and_eq_true, Bool.not_eq_true'] at h
    obtain ⟨h1, h2⟩ := h
    unfold callFunc
    simp only [Sem.run_bind, run_program, Result.andThen_ok, hf, h1, Bool.false_eq_true, if_false]
    cases hb : fn.body with
    | none => rw [hb] at h2; cases h2
    | some b => simp
  · cases h

theorem callK_ok {P : Program} {o : Oper} {ρ : Operand → Value} {f : FuncId} {args : List Value} {t : TypeId} {w : World} {K : Value → World → Prop}
    (he : ∀ h : plainF P f = true, (execOp ρ o).run P w = .ok (.enter f ⟨args⟩) w) (h : callK P f args t w K) : opOk P o ρ w K := by
  unfold callK at h
  split at h
  · rename_i hp
    unfold opOk
    rw [he hp]
    exact Calls.mono h fun e w' hr => exRes_some hr
  · exact h.elim

theorem callV_ok {P : Program} {o : Oper} {ρ : Operand → Value} {c : Call} {x : Operand} {w : World} {K : Value → World → Prop} (ho : o.op = .call c) (hc : c.callee = .value x)
    (h : callV P (ρ x) (c.args.toList.map ρ) o.type w K) : opOk P o ρ w K := by
  unfold callV at h
  split at h
  · rename_i f first cap hx
    refine callK_ok (fun hp => ?_) h
    have : (⟨(first.toList ++ c.args.toList.map ρ) ++ cap.toList⟩ : Array Value) = (first ++ c.args.map ρ) ++ cap := by
      apply Array.ext'
      simp
    rw [this]
    simp only [execOp, ho, resolve, hc, hx, Deferred.ofValue, Sem.run_bind, Sem.run_pure, Result.andThen_ok, invoke]
    exact callFunc_run hp w
  · exact h.elim

/-- a method of a value behind an interface -/
def ptInvoke (P : Program) (recv : Value) (name : String) (args : List Value) (t : TypeId) (w : World) (K : Value → World → Prop) : Prop :=
  match recv with
  | .iface it v =>
    match P.info? it with
    | some i =>
      match i.methods.toList.find? (fun m => m.name == name) with
      | some m =>
        match m.path.toList, m.func, P.underlying it with
        | [], some (f, true), some (.pointer _) => callK P f (v :: args) t w K
        | [], some (f, false), some (.pointer e) => match v with
          | .pointer (some a) => ptLoad P e (.pointer (some a)) w fun x => callK P f (x :: args) t w K
          | _ => False
        | _, _, _ => False
      | none => False
    | none => False
  | _ => False

theorem find_list {α : Type} (xs : Array α) (p : α → Bool) : xs.find? p = xs.toList.find? p := by
  rw [Array.find?_toList]

theorem wrapnil (a1 : Array TypeId) (t : TypeId) (a : Addr) (s m : ByteArray) : Builtin.ssaWrapNilChk_ a1 t #[.pointer (some a), .string s, .string m] = pure (.pointer (some a)) := rfl

theorem invoke_run {P : Program} {o : Oper} {ρ : Operand → Value} {c : Call} {x : Operand} {name : String} {w : World} {it : TypeId} {v u : Value} {f : FuncId} (ho : o.op = .call c) (hc : c.callee = .invoke x name) (hx : ρ x = .iface it v)
    (hm : ∀ fuel, (method (fuel + 1) it v name).run P w = .ok (f, u) w) (hpl : plainF P f = true) : (execOp ρ o).run P w = .ok (.enter f ⟨u :: c.args.toList.map ρ⟩) w := by
  have hfuel : ∃ k, P.types.size + Made.depth = k + 1 := ⟨P.types.size + Made.depth - 1, by unfold Made.depth; omega⟩
  obtain ⟨fuel, hfuel⟩ := hfuel
  have hargs : (#[u] ++ (#[Value.iface it v] ++ c.args.map ρ).extract 1 (#[Value.iface it v] ++ c.args.map ρ).size : Array Value) = ⟨u :: c.args.toList.map ρ⟩ := by
    apply Array.ext'
    simp
    rw [List.take_of_length_le (by simp)]
  have h1 : (callMethod (.iface it v) name ((#[Value.iface it v] ++ c.args.map ρ).extract 1 (#[Value.iface it v] ++ c.args.map ρ).size)).run P w = .ok (.enter f ⟨u :: c.args.toList.map ρ⟩) w := by
    unfold callMethod
    simp only [Sem.run_bind, run_program, Result.andThen_ok, hfuel, hm fuel, hargs]
    exact callFunc_run hpl w
  rw [← h1]
  have h0 : (#[Value.iface it v] ++ c.args.map ρ : Array Value)[0]? = some (.iface it v) := by
    rw [Array.getElem?_append_left (by simp)]; rfl
  have h2 : (execOp ρ o).run P w = (invoke (.fn (.method name) #[]) (#[Value.iface it v] ++ c.args.map ρ)).run P w := by
    simp only [execOp, ho]
    show ((resolve ρ c o.type).bind fun d => invoke d.target d.args).run P w = _
    have : resolve ρ c o.type = pure { target := .fn (.method name) #[], args := #[Value.iface it v] ++ c.args.map ρ } := by
      unfold resolve
      rw [hc]
      simp only [hx]
    rw [this]
    rfl
  rw [h2]
  show ((do
      let some recv := (#[Value.iface it v] ++ c.args.map ρ : Array Value)[0]? | stuck "call: a method without a receiver"
      callMethod recv name ((#[Value.iface it v] ++ c.args.map ρ).extract 1 (#[Value.iface it v] ++ c.args.map ρ).size) : Sem Next)).run P w = _
  rw [h0]

theorem ptInvoke_ok {P : Program} {o : Oper} {ρ : Operand → Value} {c : Call} {x : Operand} {name : String} {w : World} {K : Value → World → Prop} (ho : o.op = .call c) (hc : c.callee = .invoke x name)
    (h : ptInvoke P (ρ x) name (c.args.toList.map ρ) o.type w K) : opOk P o ρ w K := by
  unfold ptInvoke at h
  split at h <;> first | exact h.elim | skip
  rename_i it v hx
  split at h <;> first | exact h.elim | skip
  rename_i i hi
  split at h <;> first | exact h.elim | skip
  rename_i m hm
  have hf : i.methods.find? (fun m => m.name == name) = some m := by rw [find_list]; exact hm
  split at h <;> first | exact h.elim | skip
  · rename_i f e hp hfn hu
    refine callK_ok (fun hpl => invoke_run ho hc hx (fun fuel => ?_) hpl) h
    simp only [method, Sem.run_bind, run_typeInfo hi, Result.andThen_ok, hf, hp, follow, Sem.run_pure, hfn, receiverAt, run_underlying hu, Place.get]
  · rename_i f e hp hfn hu
    split at h <;> first | exact h.elim | skip
    rename_i a
    obtain ⟨u, hl, h⟩ := load_sound h
    have hlv : (loadVar e a).run P w = .ok u w := by
      have := hl w (extA_refl w)
      simpa [Instr.loadAt, Instr.sureAddr] using this
    refine callK_ok (fun hpl => invoke_run ho hc hx (fun fuel => ?_) hpl) h
    have hemp : m.path.isEmpty = true := by
      rw [Array.isEmpty_iff]
      apply Array.ext'
      simpa using hp
    simp only [method, Sem.run_bind, run_typeInfo hi, Result.andThen_ok, hf, hp, follow, Sem.run_pure, hfn, receiverAt, run_underlying hu, Place.get, hemp, if_true, strVal, wrapnil, asAddr, hlv]

/-! ### each operation -/

def isBuild (o : Oper) : Bool := match o.op with
  | .build .. => true
  | _ => false

def pureO (P : Program) (o : Oper) : Bool := isPure P o || isBuild o

def ptPO (P : Program) (o : Oper) (ρ : Operand → Value) (K : Value → Prop) : Prop :=
  match o.op with
  | .build t parts => ptBuild P t (parts.toList.map fun p => (p.1, ρ p.2)) K
  | _ => ptP P o ρ K

theorem ptPO_sound {P : Program} {o : Oper} {ρ : Operand → Value} {K : Value → Prop} (hs : slOk o = true) (h : ptPO P o ρ K) :
    ∃ v, (∀ w, (execOp ρ o).run P w = .ok (.value v) w) ∧ K v := by
  unfold ptPO at h
  split at h
  · rename_i t parts ho
    obtain ⟨v, hv, hk⟩ := val_sound (build_sound h)
    refine ⟨v, fun w => ?_, hk⟩
    rw [← hv w]
    have : (parts.map fun (i, x) => (i, ρ x)) = ⟨parts.toList.map fun p => (p.1, ρ p.2)⟩ := by
      apply Array.ext'
      simp
    simp [execOp, ho, this]
  · exact ptP_sound hs h

/-! ### maps: what the model's own operation comes to -/
def mmR (P : Program) (t : TypeId) (r : Option Value) (w : World) (n : Nat) (w' : World) : Prop := (Instr.makeMap t r).run P w = .ok (.map (some n)) w'
def lkR (P : Program) (t : TypeId) (x i : Value) (ok : Bool) (w : World) (v : Value) : Prop := (Instr.lookup t x i ok).run P w = .ok v w
def muR (P : Program) (t : TypeId) (m k x : Value) (w w' : World) : Prop := (Instr.mapUpdate t m k x).run P w = .ok () w'

def ptH (P : Program) (o : Oper) (ρ : Operand → Value) (w : World) (K : Value → World → Prop) : Prop :=
  match o.op with
  | .load t a => ptLoad P t (ρ a) w fun v => K v w
  | .store t a x => ptStore P t (ρ a) (ρ x) w fun w' => K undef w'
  | .alloc t => ptAlloc P t w K
  | .box t x => ptBox t (ρ x) w K
  | .buildSlice t n parts => ptBuildSlice P t n (parts.toList.map fun p => (p.1, ρ p.2)) w K
  | .makeSlice t l c => ptMake P t (ρ l) (ρ c) w K
  | .convert s d x => ptConvH P s d (ρ x) w K
  | .makeMap t r => ∃ n : Nat, ∃ w' : World, mmR P t (r.map ρ) w n w' ∧ K (.map (some n)) w'
  | .lookup t x i ok => exRes P o.type fun v => lkR P t (ρ x) (ρ i) ok w v ∧ K v w
  | .mapUpdate t m k x => ∃ w' : World, muR P t (ρ m) (ρ k) (ρ x) w w' ∧ K undef w'
  | .call c =>
    match c.callee with
    | .builtin .append => ptAppend P c.argTypes.toList (c.args.toList.map ρ) w K
    | .builtin .copy => ptCopy P c.argTypes.toList (c.args.toList.map ρ) w K
    | .value x => callV P (ρ x) (c.args.toList.map ρ) o.type w K
    | .invoke x name => ptInvoke P (ρ x) name (c.args.toList.map ρ) o.type w K
    | _ => False
  | _ => False

def isAllocK (o : Oper) : Bool := match o.op with
  | .alloc _ | .box .. | .buildSlice .. | .makeSlice .. => true
  | _ => false

theorem opOk_val {P : Program} {o : Oper} {ρ : Operand → Value} {w w' : World} {v : Value} {K : Value → World → Prop} (h : (execOp ρ o).run P w = .ok (.value v) w') (hk : K v w') : opOk P o ρ w K := by
  unfold opOk; rw [h]; exact hk

theorem ptH_sound {P : Program} {o : Oper} {ρ : Operand → Value} {w : World} {K : Value → World → Prop} (h : ptH P o ρ w K) : opOk P o ρ w fun v w' => (isAllocK o = true → extA w w') ∧ K v w' := by
  unfold ptH at h
  split at h <;> first | exact h.elim | skip
  · rename_i t a ho
    obtain ⟨v, hv, hk⟩ := load_sound h
    exact opOk_val (w' := w) (v := v) (by simp [execOp, ho, hv w (extA_refl w)]) ⟨fun h => by simp [isAllocK, ho] at h, hk⟩
  · rename_i t a x ho
    obtain ⟨w', hw, hk⟩ := store_sound h
    unfold opOk
    have : (execOp ρ o).run P w = .ok .skip w' := by simp [execOp, ho, hw]
    rw [this]
    exact ⟨fun h => by simp [isAllocK, ho] at h, hk⟩
  · rename_i t ho
    obtain ⟨v, w', hr, he, hk⟩ := alloc_sound h
    exact opOk_val (w' := w') (v := v) (by simp [execOp, ho, hr]) ⟨fun _ => he, hk⟩
  · rename_i t x ho
    obtain ⟨v, w', hr, he, hk⟩ := box_sound (P := P) h
    exact opOk_val (w' := w') (v := v) (by simp [execOp, ho, hr]) ⟨fun _ => he, hk⟩
  · rename_i t n parts ho
    obtain ⟨v, w', hr, he, hk⟩ := buildSlice_sound h
    have : (parts.map fun (i, x) => (i, ρ x)) = ⟨parts.toList.map fun p => (p.1, ρ p.2)⟩ := by
      apply Array.ext'
      simp
    exact opOk_val (w' := w') (v := v) (by simp [execOp, ho, this, hr]) ⟨fun _ => he, hk⟩
  · rename_i t l c ho
    obtain ⟨v, w', hr, he, hk⟩ := make_sound h
    exact opOk_val (w' := w') (v := v) (by simp [execOp, ho, hr]) ⟨fun _ => he, hk⟩
  · rename_i s d x ho
    obtain ⟨v, w', hr, hk⟩ := convH_sound h
    exact opOk_val (w' := w') (v := v) (by simp [execOp, ho, hr]) ⟨fun h => by simp [isAllocK, ho] at h, hk⟩
  · rename_i t r ho
    obtain ⟨n, w', hr, hk⟩ := h
    unfold mmR at hr
    exact opOk_val (w' := w') (v := .map (some n)) (by simp [execOp, ho, hr]) ⟨fun h => by simp [isAllocK, ho] at h, hk⟩
  · rename_i t x i ok ho
    obtain ⟨v, hr, hk⟩ := exRes_some h
    unfold lkR at hr
    exact opOk_val (w' := w) (v := v) (by simp [execOp, ho, hr]) ⟨fun h => by simp [isAllocK, ho] at h, hk⟩
  · rename_i t m k x ho
    obtain ⟨w', hr, hk⟩ := h
    unfold muR at hr
    unfold opOk
    have : (execOp ρ o).run P w = .ok .skip w' := by simp [execOp, ho, hr]
    rw [this]
    exact ⟨fun h => by simp [isAllocK, ho] at h, hk⟩
  · rename_i c ho
    split at h <;> first | exact h.elim | skip
    · rename_i hc
      obtain ⟨v, w', hr, hk⟩ := append_sound (ty := o.type) h
      refine opOk_val (w' := w') (v := v) ?_ ⟨fun h => by simp [isAllocK, ho] at h, hk⟩
      have e : (⟨c.args.toList.map ρ⟩ : Array Value) = c.args.map ρ := by apply Array.ext'; simp
      rw [e] at hr
      simp [execOp, ho, resolve, hc, invoke, builtin, hr]
    · rename_i hc
      obtain ⟨v, w', hr, hk⟩ := copy_sound (ty := o.type) h
      refine opOk_val (w' := w') (v := v) ?_ ⟨fun h => by simp [isAllocK, ho] at h, hk⟩
      have e : (⟨c.args.toList.map ρ⟩ : Array Value) = c.args.map ρ := by apply Array.ext'; simp
      rw [e] at hr
      simp [execOp, ho, resolve, hc, invoke, builtin, hr]
    · rename_i x hc
      exact opOk_mono (callV_ok ho hc h) fun v w' hk => ⟨fun h => by simp [isAllocK, ho] at h, hk⟩
    · rename_i x name hc
      exact opOk_mono (ptInvoke_ok ho hc h) fun v w' hk => ⟨fun h => by simp [isAllocK, ho] at h, hk⟩

def ptOp (P : Program) (o : Oper) (ρ : Operand → Value) (w : World) (K : Value → World → Prop) : Prop :=
  match pureO P o with
  | true => ptPO P o ρ fun v => K v w
  | false => ptH P o ρ w K

theorem ptOp_sound {P : Program} {o : Oper} {ρ : Operand → Value} {w : World} {K : Value → World → Prop} (hs : slOk o = true) (h : ptOp P o ρ w K) : opOk P o ρ w K := by
  unfold ptOp at h
  split at h
  · obtain ⟨v, hv, hk⟩ := ptPO_sound hs h
    exact opOk_val (hv w) hk
  · exact opOk_mono (ptH_sound h) fun _ _ hk => hk.2

/-! ### guards -/

def guardK (ops : Array Oper) (o : Oper) (ρ : Nat → Value) (yes no : (Nat → Value) → Prop) : Prop :=
  match o.guard with
  | none => yes ρ
  | some (j, want) =>
    match (ops[j]?).bind (·.dst) with
    | none => False
    | some d =>
      match ρ d with
      | .bool b =>
        match want with
        | true => br b (yes (upd ρ d (.bool true))) (no (upd ρ d (.bool false)))
        | false => br b (no (upd ρ d (.bool true))) (yes (upd ρ d (.bool false)))
      | .tuple _ => no ρ
      | _ => False

theorem upd_same {ρ : Nat → Value} {d : Nat} {v : Value} (h : ρ d = v) : upd ρ d v = ρ := by
  funext t
  unfold upd
  split
  · rename_i e; subst e; exact h.symm
  · rfl

theorem guardK_sound {N : Nat} {ops : Array Oper} {o : Oper} {a : Act} {ρ : Nat → Value} {yes no : (Nat → Value) → Prop} (hr : rel N a ρ) (h : guardK ops o ρ yes no) :
    (Region.wanted o (yielded ops a.tmps) = true ∧ yes ρ) ∨ (Region.wanted o (yielded ops a.tmps) = false ∧ no ρ) := by
  unfold guardK at h
  unfold Region.wanted
  split at h
  · rename_i hg; exact Or.inl ⟨by simp [hg], h⟩
  · rename_i j want hg
    simp only [hg]
    split at h <;> first | exact h.elim | skip
    rename_i d hd
    have hdd : a.tmps.getD d undef = ρ d := congrFun hr.2.2 d
    split at h <;> first | exact h.elim | skip
    · rename_i b hb
      have hy : yielded ops a.tmps j = some b := by
        rw [yielded_getD, hd]
        simp only [hdd, hb]
      rw [hy]
      cases want <;> cases b <;> simp only [br] at h <;> rw [upd_same hb] at h <;> simp [h]
    · rename_i vs hb
      have hy : yielded ops a.tmps j = none := by
        rw [yielded_getD, hd]
        simp only [hdd, hb]
      rw [hy]
      exact Or.inr ⟨rfl, h⟩

/-! ### regions in the order of the text -/

def ptOps (P : Program) (ops : Array Oper) : List Nat → (Nat → Value) → World → ((Nat → Value) → World → Prop) → Prop
  | [], ρ, w, K => K ρ w
  | i :: rest, ρ, w, K =>
    match ops[i]? with
    | none => False
    | some o => guardK ops o ρ (fun ρ' => ptOp P o (ev ρ') w fun v w' => ptOps P ops rest (putR ρ' o.dst v) w' K) (fun ρ' => ptOps P ops rest (putR ρ' o.dst undef) w K)

/-- each operation is fit, its slot in the frame -/
def fitB (N : Nat) (ops : Array Oper) : Bool := ops.toList.all fun o => slOk o && (match o.dst with
  | some d => Nat.blt d N
  | none => true)

theorem fitB_spec {N : Nat} {ops : Array Oper} (h : fitB N ops = true) {i : Nat} {o : Oper} (ho : ops[i]? = some o) : slOk o = true ∧ ∀ d, o.dst = some d → d < N := by
  unfold fitB at h
  rw [List.all_eq_true] at h
  have hm : o ∈ ops.toList := by
    rw [← Array.getElem?_toList] at ho
    exact List.mem_of_getElem? ho
  have := h o hm
  simp only [Bool.and_eq_true] at this
  refine ⟨this.1, fun d hd => ?_⟩
  have h2 := this.2
  rw [hd] at h2
  simpa [Nat.blt_eq] using h2

theorem ptOps_sound {P : Program} {N : Nat} {ops : Array Oper} (hf : fitB N ops = true) : ∀ (l : List Nat) {a : Act} {ρ : Nat → Value} {w : World} {K : (Nat → Value) → World → Prop}, rel N a ρ → ptOps P ops l ρ w K →
    opsOk P ops l a w fun a' w' => ∃ ρ', rel N a' ρ' ∧ K ρ' w' := by
  intro l
  induction l with
  | nil => intro a ρ w K hr h; exact ⟨ρ, hr, h⟩
  | cons i rest ih =>
    intro a ρ w K hr h
    unfold ptOps at h
    split at h
    · exact h.elim
    · rename_i o ho
      obtain ⟨hs, hd⟩ := fitB_spec hf ho
      show stepOk P ops i a w fun a w => opsOk P ops rest a w _
      unfold stepOk
      simp only [ho]
      rcases guardK_sound hr h with ⟨hw, h⟩ | ⟨hw, h⟩
      · simp only [hw, if_true]
        rw [rel_eval hr]
        exact opOk_mono (ptOp_sound hs h) fun v w' hk => ih (rel_put hr hd v) hk
      · simp only [hw]
        exact ih (rel_put hr hd _) h

end Go.Proofs.Ythdmmmfgjmmelaa
