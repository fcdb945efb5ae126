/- Code, loops, the frame of a call. Own work. -/
import Derived.Test.YthdmmmfgjmmelaaVcH
namespace Go.Proofs.Ythdmmmfgjmmelaa
open Go
set_option linter.unusedSimpArgs false
set_option linter.unusedVariables false

abbrev RK := (Nat → Value) → World → Prop

structure Ks where
  norm : RK
  ret : RK
  ex : List (Nat × RK)

def exitK : List (Nat × RK) → Nat → RK
  | [], _ => fun _ _ => False
  | (i, k) :: r, id => match Nat.beq i id with
    | true => k
    | false => exitK r id

def ptReg (P : Program) (N : Nat) (ops : Array Oper) (draw : Bool) (K : RK) (ρ : Nat → Value) (w : World) : Prop :=
  match draw with
  | false => match fitB N ops with
    | true => ptOps P ops (List.range ops.size) ρ w K
    | false => False
  | true => match fitB N ops && statB P ops (befs ops.toList []) with
    | true => ptTree P ops (ops.toList.map depsL) (lzs P ops (befs ops.toList [])) K ops.size 0 ρ w.drew
    | false => False

def pt (P : Program) (N : Nat) : Code → Ks → RK
  | .skip, K, ρ, w => K.norm ρ w
  | .region _ ops draw, K, ρ, w => ptReg P N ops draw K.norm ρ w
  | .seq x y, K, ρ, w => pt P N x { norm := fun ρ w => pt P N y K ρ w, ret := K.ret, ex := K.ex } ρ w
  | .cond c x y, K, ρ, w => match ev ρ c with
    | .bool b => br b (pt P N x K ρ w) (pt P N y K ρ w)
    | _ => False
  | .block id c, K, ρ, w => pt P N c { norm := K.norm, ret := K.ret, ex := (id, K.norm) :: K.ex } ρ w
  | .exit id, K, ρ, w => exitK K.ex id ρ w
  | .ret, K, ρ, w => K.ret ρ w
  | _, _, _, _ => False

def toQ (N : Nat) (K : Ks) : Exit → Act → World → Prop := fun e a w => ∃ ρ, rel N a ρ ∧ (match e with
  | .normal => K.norm ρ w
  | .ret => K.ret ρ w
  | .exit id => exitK K.ex id ρ w
  | _ => False)

def wpc (P : Program) (N : Nat) (c : Code) (K : Ks) (ρ : Nat → Value) (w : World) : Prop := ∀ a, rel N a ρ → c.wp P (toQ N K) a w

section
variable {P : Program} {N : Nat} {K : Ks} {ρ : Nat → Value} {w : World}

theorem wpc_reg {id : Nat} {ops : Array Oper} {draw : Bool} (hm : P.follows .mixedOrders = true) (h : ptReg P N ops draw K.norm ρ w) : wpc P N (.region id ops draw) K ρ w := by
  intro a hr
  unfold ptReg at h
  cases draw with
  | false =>
    simp only at h
    split at h <;> first | exact h.elim | skip
    rename_i hf
    exact wp_region (wpOps_of_opsOk (fun a w ⟨ρ', h1, h2⟩ => ⟨ρ', h1, h2⟩) _ _ _ (ptOps_sound hf _ hr h))
  | true =>
    simp only at h
    split at h <;> first | exact h.elim | skip
    rename_i hf
    rw [Bool.and_eq_true] at hf
    have St := stat_of hf.2
    refine wp_of_tree hm St (K := fun a' w' => ∃ ρ', rel N a' ρ' ∧ K.norm ρ' w') (fun a w ⟨ρ', h1, h2⟩ => ⟨ρ', h1, h2⟩) ?_
    have := tree_of_pt hf.1 St ops.size 0 hr h
    have e : bitsA ops.size 0 = Array.replicate ops.size false := by
      apply Array.ext
      · simp [bitsA]
      · intro i h1 h2; simp [bitsA]
    rw [e] at this
    exact this

theorem wpc_seq {x y : Code} (M : RK) (h : wpc P N x { norm := M, ret := K.ret, ex := K.ex } ρ w) (h2 : ∀ ρ w, M ρ w → wpc P N y K ρ w) : wpc P N (.seq x y) K ρ w := by
  intro a hr
  refine wp_seq (wp_mono (h a hr) fun e a' w' hq => ?_)
  obtain ⟨ρ', hr', hk⟩ := hq
  cases e with
  | normal => exact h2 _ _ hk a' hr'
  | ret => exact ⟨ρ', hr', hk⟩
  | exit id => exact ⟨ρ', hr', hk⟩
  | _ => exact hk.elim

theorem wpc_cond {c : Operand} {x y : Code} {b : Bool} (hb : ev ρ c = .bool b) (ht : b = true → wpc P N x K ρ w) (hf : b = false → wpc P N y K ρ w) : wpc P N (.cond c x y) K ρ w := by
  intro a hr
  exact wp_cond_split (t := b) (by rw [rel_eval hr]; exact hb) (fun h => ht h a hr) (fun h => hf h a hr)

theorem wpc_block {id : Nat} {c : Code} (h : wpc P N c { norm := K.norm, ret := K.ret, ex := (id, K.norm) :: K.ex } ρ w) : wpc P N (.block id c) K ρ w := by
  intro a hr
  refine wp_block (wp_mono (h a hr) fun e a' w' hq => ?_)
  obtain ⟨ρ', hr', hk⟩ := hq
  cases e with
  | normal => exact ⟨ρ', hr', hk⟩
  | ret => exact ⟨ρ', hr', hk⟩
  | exit id' =>
    simp only [exitK] at hk
    by_cases hid : id = id'
    · subst hid
      have : Nat.beq id id = true := by simp
      rw [this] at hk
      simp only [Exit.inBlock, if_true]
      exact ⟨ρ', hr', hk⟩
    · have : Nat.beq id id' = false := by
        cases hb : Nat.beq id id' with
        | false => rfl
        | true => exact absurd (Nat.eq_of_beq_eq_true hb) hid
      rw [this] at hk
      simp only [Exit.inBlock, if_neg (fun h : id' = id => hid h.symm)]
      exact ⟨ρ', hr', hk⟩
  | _ => exact hk.elim

theorem wpc_loop {c : Code} (I : RK) (μ : (Nat → Value) → World → Nat) (h0 : I ρ w)
    (hround : ∀ ρ w, I ρ w → wpc P N c { norm := fun ρ' w' => I ρ' w' ∧ μ ρ' w' < μ ρ w, ret := K.ret, ex := K.ex } ρ w) : wpc P N (.loop c) K ρ w := by
  intro a hr
  refine wp_loop (fun a w => ∃ ρ, rel N a ρ ∧ I ρ w) (fun a w => μ (fun t => a.tmps.getD t undef) w) ⟨ρ, hr, h0⟩ ?_
  rintro a1 w1 ⟨ρ1, hr1, hI⟩
  refine wp_mono (hround ρ1 w1 hI a1 hr1) fun e a' w' hq => ?_
  obtain ⟨ρ', hr', hk⟩ := hq
  cases e with
  | normal =>
    refine ⟨⟨ρ', hr', hk.1⟩, ?_⟩
    rw [hr1.2.2, hr'.2.2]
    exact hk.2
  | ret => exact ⟨ρ', hr', hk⟩
  | exit id => exact ⟨ρ', hr', hk⟩
  | _ => exact hk.elim

theorem wpc_skip (h : K.norm ρ w) : wpc P N .skip K ρ w := fun a hr => wp_skip ⟨ρ, hr, h⟩
theorem wpc_ret (h : K.ret ρ w) : wpc P N .ret K ρ w := fun a hr => wp_ret ⟨ρ, hr, h⟩
theorem wpc_exit {id : Nat} (h : exitK K.ex id ρ w) : wpc P N (.exit id) K ρ w := fun a hr => wp_exit ⟨ρ, hr, h⟩

end

/-- THE RULE: what the kernel reckons of code without loops holds of it. -/
theorem pt_sound {P : Program} {N : Nat} (hm : P.follows .mixedOrders = true) : ∀ (c : Code) {K : Ks} {ρ : Nat → Value} {w : World}, pt P N c K ρ w → wpc P N c K ρ w := by
  intro c
  induction c with
  | skip => intro K ρ w h; exact wpc_skip h
  | region id ops draw => intro K ρ w h; exact wpc_reg hm h
  | seq x y ihx ihy => intro K ρ w h; exact wpc_seq _ (ihx h) fun ρ w h => ihy h
  | cond c x y ihx ihy =>
    intro K ρ w h
    unfold pt at h
    split at h <;> first | exact h.elim | skip
    rename_i b hb
    refine wpc_cond hb (fun ht => ?_) (fun hf => ?_)
    · subst ht; exact ihx h
    · subst hf; exact ihy h
  | block id c ih => intro K ρ w h; exact wpc_block (ih h)
  | loop c => intro K ρ w h; exact h.elim
  | rangeFunc f ps as c => intro K ρ w h; exact h.elim
  | exit id => intro K ρ w h; exact wpc_exit h
  | scope c => intro K ρ w h; exact h.elim
  | label l => intro K ρ w h; exact h.elim
  | goto l => intro K ρ w h; exact h.elim
  | ret => intro K ρ w h; exact wpc_ret h
  | refuse s => intro K ρ w h; exact h.elim

/-! ### what a call gives back -/

def resL (P : Program) (w : World) (ρ : Nat → Value) : List ResultVar → (List Value → Prop) → Prop
  | [], F => F []
  | .tmp t :: r, F => resL P w ρ r fun vs => F (ρ t :: vs)
  | .cell a t :: r, F => match ρ a with
    | .pointer p => nz p fun ad => ptLoad P t (.pointer (some ad)) w fun v => resL P w ρ r fun vs => F (v :: vs)
    | _ => False

def retK (P : Program) (rs : List ResultVar) (Q : Value → World → Prop) : RK := fun ρ w => resL P w ρ rs fun vs => match vs with
  | [v] => Q v w
  | vs => Q (.tuple ⟨vs⟩) w

def resSem (tmps : Array Value) : ResultVar → Sem Value
  | .tmp t => pure (tmps.getD t undef)
  | .cell a t => do loadVar t (← asAddr (tmps.getD a undef))

theorem resL_run {P : Program} {w : World} {ρ : Nat → Value} {tmps : Array Value} (ht : (fun t => tmps.getD t undef) = ρ) : ∀ (rs : List ResultVar) {F : List Value → Prop}, resL P w ρ rs F →
    ∃ vs, (rs.mapM (resSem tmps)).run P w = .ok vs w ∧ F vs
  | [], F, h => ⟨[], by simp, h⟩
  | .tmp t :: r, F, h => by
    obtain ⟨vs, h1, h2⟩ := resL_run ht r (F := fun vs => F (ρ t :: vs)) h
    refine ⟨_, ?_, h2⟩
    rw [List.mapM_cons]
    simp only [Sem.run_bind, resSem, Sem.run_pure, Result.andThen_ok, h1]
    rw [← ht]
  | .cell a t :: r, F, h => by
    unfold resL at h
    split at h <;> first | exact h.elim | skip
    rename_i p hp
    unfold nz at h
    split at h <;> first | exact h.elim | skip
    rename_i ad
    obtain ⟨v, hv, h⟩ := load_sound h
    obtain ⟨vs, h1, h2⟩ := resL_run ht r (F := fun vs => F (v :: vs)) h
    refine ⟨_, ?_, h2⟩
    rw [List.mapM_cons]
    have e : tmps.getD a undef = ρ a := congrFun ht a
    have hl : (loadVar t ad).run P w = .ok v w := by
      have := hv w (extA_refl w)
      simpa [Instr.loadAt, Instr.sureAddr] using this
    simp only [Sem.run_bind, resSem, Sem.run_pure, Result.andThen_ok, h1, e, hp, asAddr, hl]

theorem results_run {P : Program} {fn : Func} {w : World} {ρ : Nat → Value} {tmps : Array Value} (ht : (fun t => tmps.getD t undef) = ρ) {Q : Value → World → Prop} (h : retK P fn.results.toList Q ρ w) :
    ∃ v, (results fn tmps).run P w = .ok v w ∧ Q v w := by
  obtain ⟨vs, h1, h2⟩ := resL_run ht _ h
  have hm : (fn.results.mapM (resSem tmps)).run P w = .ok vs.toArray w := by
    have : fn.results.mapM (resSem tmps) = List.toArray <$> fn.results.toList.mapM (resSem tmps) := by
      rw [← List.mapM_toArray]
    rw [this, Sem.run_map, h1]
    rfl
  have hres : results fn tmps = (fn.results.mapM (resSem tmps) >>= fun vs => pure (if h : vs.size = 1 then vs[0] else .tuple vs)) := by
    unfold results
    congr 1
  rw [hres]
  cases vs with
  | nil => exact ⟨_, by rw [Sem.run_bind, hm]; simp, h2⟩
  | cons v r =>
    cases r with
    | nil => exact ⟨_, by rw [Sem.run_bind, hm]; simp, h2⟩
    | cons u r => exact ⟨_, by rw [Sem.run_bind, hm]; simp, h2⟩

def args0 (args : List Value) : Nat → Value := fun t => args.getD t undef

def Ret (Q : Value → World → Prop) : Ending → World → Prop := fun e w => ∃ v, e = .returned v ∧ Q v w

/-- THE RULE for a function: its body, from its arguments. -/
theorem calls_of_wpc {P : Program} {f : FuncId} {fn : Func} {c : Code} {N : Nat} {args : List Value} {w : World} {Q : Value → World → Prop} (rs : List ResultVar)
    (hf : P.funcs[f]? = some fn) (hb : fn.body = some c) (hN : fn.ntmps = N) (hle : Nat.ble args.length N = true) (hrs : fn.results.toList = rs)
    (h : wpc P N c { norm := retK P rs Q, ret := retK P rs Q, ex := [] } (args0 args) w) : Calls P f ⟨args⟩ w (Ret Q) := by
  subst hN hrs
  have hle' := Nat.le_of_ble_eq_true hle
  have hr : rel fn.ntmps { tmps := (⟨args⟩ : Array Value) ++ Array.replicate (fn.ntmps - (⟨args⟩ : Array Value).size) undef, defers := [] } (args0 args) := by
    refine ⟨rfl, by simp; omega, ?_⟩
    funext t
    unfold args0
    rw [Array.getD_eq_getD_getElem?, List.getD_eq_getElem?_getD, Array.getElem?_append]
    split
    · simp
    · rename_i ht
      have ht' : args.length ≤ t := by simpa using ht
      rw [List.getElem?_eq_none ht']
      rw [Array.getElem?_replicate]
      split <;> rfl
  refine calls_of_wp hf hb (wp_mono (h _ hr) fun e a w hq => ?_)
  obtain ⟨ρ, hrel, hk⟩ := hq
  cases e with
  | normal =>
    obtain ⟨v, h1, h2⟩ := results_run hrel.2.2 hk
    exact ⟨hrel.1, v, h1, v, rfl, h2⟩
  | ret =>
    obtain ⟨v, h1, h2⟩ := results_run hrel.2.2 hk
    exact ⟨hrel.1, v, h1, v, rfl, h2⟩
  | exit id => exact hk.elim
  | _ => exact hk.elim

end Go.Proofs.Ythdmmmfgjmmelaa
