/- An interface that holds a pointer of one type, as a slot. Own work. -/
import Derived.Test.YthdmmmfgjmmelaaVcJ
namespace Go.Proofs.Ythdmmmfgjmmelaa
open Go Go.Proofs
def asQ (t : Nat) (v : Value) (F : Addr → Prop) : Prop := match v with
  | .iface g (.pointer (some p)) => match Nat.beq g t with
    | true => F p
    | false => False
  | _ => False
theorem asQ_el {t : Nat} {v : Value} {F : Addr → Prop} (h : asQ t v F) : ∃ n, v = .iface t (.pointer (some n)) ∧ F n := by
  unfold asQ at h
  split at h
  · split at h
    · rename_i hb; have := Nat.eq_of_beq_eq_true hb; subst this; exact ⟨_, rfl, h⟩
    · exact h.elim
  · exact h.elim
/-- a function value that is not known -/
def asFn (v : Value) (F : FuncId → Array Value → Array Value → Prop) : Prop := match v with
  | .func (.func f) first cap => F f first cap
  | _ => False
def whenB (b : Bool) (X : Prop) : Prop := match b with
  | true => X
  | false => False
theorem whenB_i {b : Bool} {X : Prop} (hb : b = true) (h : X) : whenB b X := by subst hb; exact h
theorem asFn_i {f : FuncId} {first cap : Array Value} {F : FuncId → Array Value → Array Value → Prop} (h : F f first cap) : asFn (.func (.func f) first cap) F := h
end Go.Proofs.Ythdmmmfgjmmelaa
