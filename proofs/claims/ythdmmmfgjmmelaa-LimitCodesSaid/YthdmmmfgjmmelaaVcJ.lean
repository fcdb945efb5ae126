/- Words of the printed texts. Own work. -/
import Derived.Test.YthdmmmfgjmmelaaVcI
import Derived.Test.YthdmmmfgjmmelaaProg
namespace Go.Proofs.Ythdmmmfgjmmelaa
open Go Go.Proofs
set_option linter.unusedVariables false

/-- a name for what has been reckoned -/
abbrev lt {α : Type} (e : α) (K : α → Prop) : Prop := K e

abbrev _root_.Go.World.heapSize (w : World) : Nat := w.heap.size

section
variable {P : Program} {N : Nat} {K : Ks} {ρ : Nat → Value} {w : World}

theorem reroot {c : Code} {t : Nat} {v : Value} (e : ρ t = v) (h : wpc P N c K (upd ρ t v) w) : wpc P N c K ρ w := by rw [upd_same e] at h; exact h
theorem upd_other {t d : Nat} {u v : Value} (h : ρ t = v) (hn : Nat.beq t d = false) : upd ρ d u t = v := by
  unfold upd
  rw [if_neg]
  · exact h
  · intro e; subst e; simp at hn

theorem br_t {b : Bool} {A B : Prop} (h : br b A B) (hb : b = true) : A := by subst hb; exact h
theorem br_f {b : Bool} {A B : Prop} (h : br b A B) (hb : b = false) : B := by subst hb; exact h

theorem wpc_pre1 {a c : Code} (hm : P.follows .mixedOrders = true) (M : RK) (h : pt P N a { norm := M, ret := K.ret, ex := K.ex } ρ w) (h2 : ∀ ρ w, M ρ w → wpc P N c K ρ w) : wpc P N (.seq a c) K ρ w :=
  wpc_seq M (pt_sound hm a h) h2
theorem wpc_pre2 {a1 a2 c : Code} (hm : P.follows .mixedOrders = true) (M : RK) (h : pt P N (.seq a1 a2) { norm := M, ret := K.ret, ex := K.ex } ρ w) (h2 : ∀ ρ w, M ρ w → wpc P N c K ρ w) : wpc P N (.seq a1 (.seq a2 c)) K ρ w :=
  wpc_seq _ (pt_sound hm a1 h) fun ρ w h => wpc_pre1 hm M h h2
theorem wpc_pre3 {a1 a2 a3 c : Code} (hm : P.follows .mixedOrders = true) (M : RK) (h : pt P N (.seq a1 (.seq a2 a3)) { norm := M, ret := K.ret, ex := K.ex } ρ w) (h2 : ∀ ρ w, M ρ w → wpc P N c K ρ w) : wpc P N (.seq a1 (.seq a2 (.seq a3 c))) K ρ w :=
  wpc_seq _ (pt_sound hm a1 h) fun ρ w h => wpc_pre2 hm M h h2
theorem wpc_pre4 {a1 a2 a3 a4 c : Code} (hm : P.follows .mixedOrders = true) (M : RK) (h : pt P N (.seq a1 (.seq a2 (.seq a3 a4))) { norm := M, ret := K.ret, ex := K.ex } ρ w) (h2 : ∀ ρ w, M ρ w → wpc P N c K ρ w) : wpc P N (.seq a1 (.seq a2 (.seq a3 (.seq a4 c)))) K ρ w :=
  wpc_seq _ (pt_sound hm a1 h) fun ρ w h => wpc_pre3 hm M h h2
theorem wpc_pre5 {a1 a2 a3 a4 a5 c : Code} (hm : P.follows .mixedOrders = true) (M : RK) (h : pt P N (.seq a1 (.seq a2 (.seq a3 (.seq a4 a5)))) { norm := M, ret := K.ret, ex := K.ex } ρ w) (h2 : ∀ ρ w, M ρ w → wpc P N c K ρ w) : wpc P N (.seq a1 (.seq a2 (.seq a3 (.seq a4 (.seq a5 c))))) K ρ w :=
  wpc_seq _ (pt_sound hm a1 h) fun ρ w h => wpc_pre4 hm M h h2
theorem wpc_pre6 {a1 a2 a3 a4 a5 a6 c : Code} (hm : P.follows .mixedOrders = true) (M : RK) (h : pt P N (.seq a1 (.seq a2 (.seq a3 (.seq a4 (.seq a5 a6))))) { norm := M, ret := K.ret, ex := K.ex } ρ w) (h2 : ∀ ρ w, M ρ w → wpc P N c K ρ w) : wpc P N (.seq a1 (.seq a2 (.seq a3 (.seq a4 (.seq a5 (.seq a6 c)))))) K ρ w :=
  wpc_seq _ (pt_sound hm a1 h) fun ρ w h => wpc_pre5 hm M h h2
theorem wpc_pre7 {a1 a2 a3 a4 a5 a6 a7 c : Code} (hm : P.follows .mixedOrders = true) (M : RK) (h : pt P N (.seq a1 (.seq a2 (.seq a3 (.seq a4 (.seq a5 (.seq a6 a7)))))) { norm := M, ret := K.ret, ex := K.ex } ρ w) (h2 : ∀ ρ w, M ρ w → wpc P N c K ρ w) : wpc P N (.seq a1 (.seq a2 (.seq a3 (.seq a4 (.seq a5 (.seq a6 (.seq a7 c))))))) K ρ w :=
  wpc_seq _ (pt_sound hm a1 h) fun ρ w h => wpc_pre6 hm M h h2
theorem wpc_pre8 {a1 a2 a3 a4 a5 a6 a7 a8 c : Code} (hm : P.follows .mixedOrders = true) (M : RK) (h : pt P N (.seq a1 (.seq a2 (.seq a3 (.seq a4 (.seq a5 (.seq a6 (.seq a7 a8))))))) { norm := M, ret := K.ret, ex := K.ex } ρ w) (h2 : ∀ ρ w, M ρ w → wpc P N c K ρ w) : wpc P N (.seq a1 (.seq a2 (.seq a3 (.seq a4 (.seq a5 (.seq a6 (.seq a7 (.seq a8 c)))))))) K ρ w :=
  wpc_seq _ (pt_sound hm a1 h) fun ρ w h => wpc_pre7 hm M h h2
theorem wpc_pre9 {a1 a2 a3 a4 a5 a6 a7 a8 a9 c : Code} (hm : P.follows .mixedOrders = true) (M : RK) (h : pt P N (.seq a1 (.seq a2 (.seq a3 (.seq a4 (.seq a5 (.seq a6 (.seq a7 (.seq a8 a9)))))))) { norm := M, ret := K.ret, ex := K.ex } ρ w) (h2 : ∀ ρ w, M ρ w → wpc P N c K ρ w) : wpc P N (.seq a1 (.seq a2 (.seq a3 (.seq a4 (.seq a5 (.seq a6 (.seq a7 (.seq a8 (.seq a9 c))))))))) K ρ w :=
  wpc_seq _ (pt_sound hm a1 h) fun ρ w h => wpc_pre8 hm M h h2
theorem wpc_pre10 {a1 a2 a3 a4 a5 a6 a7 a8 a9 a10 c : Code} (hm : P.follows .mixedOrders = true) (M : RK) (h : pt P N (.seq a1 (.seq a2 (.seq a3 (.seq a4 (.seq a5 (.seq a6 (.seq a7 (.seq a8 (.seq a9 a10))))))))) { norm := M, ret := K.ret, ex := K.ex } ρ w) (h2 : ∀ ρ w, M ρ w → wpc P N c K ρ w) : wpc P N (.seq a1 (.seq a2 (.seq a3 (.seq a4 (.seq a5 (.seq a6 (.seq a7 (.seq a8 (.seq a9 (.seq a10 c)))))))))) K ρ w :=
  wpc_seq _ (pt_sound hm a1 h) fun ρ w h => wpc_pre9 hm M h h2
theorem wpc_pre11 {a1 a2 a3 a4 a5 a6 a7 a8 a9 a10 a11 c : Code} (hm : P.follows .mixedOrders = true) (M : RK) (h : pt P N (.seq a1 (.seq a2 (.seq a3 (.seq a4 (.seq a5 (.seq a6 (.seq a7 (.seq a8 (.seq a9 (.seq a10 a11)))))))))) { norm := M, ret := K.ret, ex := K.ex } ρ w) (h2 : ∀ ρ w, M ρ w → wpc P N c K ρ w) : wpc P N (.seq a1 (.seq a2 (.seq a3 (.seq a4 (.seq a5 (.seq a6 (.seq a7 (.seq a8 (.seq a9 (.seq a10 (.seq a11 c))))))))))) K ρ w :=
  wpc_seq _ (pt_sound hm a1 h) fun ρ w h => wpc_pre10 hm M h h2
theorem wpc_pre12 {a1 a2 a3 a4 a5 a6 a7 a8 a9 a10 a11 a12 c : Code} (hm : P.follows .mixedOrders = true) (M : RK) (h : pt P N (.seq a1 (.seq a2 (.seq a3 (.seq a4 (.seq a5 (.seq a6 (.seq a7 (.seq a8 (.seq a9 (.seq a10 (.seq a11 a12))))))))))) { norm := M, ret := K.ret, ex := K.ex } ρ w) (h2 : ∀ ρ w, M ρ w → wpc P N c K ρ w) : wpc P N (.seq a1 (.seq a2 (.seq a3 (.seq a4 (.seq a5 (.seq a6 (.seq a7 (.seq a8 (.seq a9 (.seq a10 (.seq a11 (.seq a12 c)))))))))))) K ρ w :=
  wpc_seq _ (pt_sound hm a1 h) fun ρ w h => wpc_pre11 hm M h h2
theorem wpc_pre13 {a1 a2 a3 a4 a5 a6 a7 a8 a9 a10 a11 a12 a13 c : Code} (hm : P.follows .mixedOrders = true) (M : RK) (h : pt P N (.seq a1 (.seq a2 (.seq a3 (.seq a4 (.seq a5 (.seq a6 (.seq a7 (.seq a8 (.seq a9 (.seq a10 (.seq a11 (.seq a12 a13)))))))))))) { norm := M, ret := K.ret, ex := K.ex } ρ w) (h2 : ∀ ρ w, M ρ w → wpc P N c K ρ w) : wpc P N (.seq a1 (.seq a2 (.seq a3 (.seq a4 (.seq a5 (.seq a6 (.seq a7 (.seq a8 (.seq a9 (.seq a10 (.seq a11 (.seq a12 (.seq a13 c))))))))))))) K ρ w :=
  wpc_seq _ (pt_sound hm a1 h) fun ρ w h => wpc_pre12 hm M h h2
theorem wpc_pre14 {a1 a2 a3 a4 a5 a6 a7 a8 a9 a10 a11 a12 a13 a14 c : Code} (hm : P.follows .mixedOrders = true) (M : RK) (h : pt P N (.seq a1 (.seq a2 (.seq a3 (.seq a4 (.seq a5 (.seq a6 (.seq a7 (.seq a8 (.seq a9 (.seq a10 (.seq a11 (.seq a12 (.seq a13 a14))))))))))))) { norm := M, ret := K.ret, ex := K.ex } ρ w) (h2 : ∀ ρ w, M ρ w → wpc P N c K ρ w) : wpc P N (.seq a1 (.seq a2 (.seq a3 (.seq a4 (.seq a5 (.seq a6 (.seq a7 (.seq a8 (.seq a9 (.seq a10 (.seq a11 (.seq a12 (.seq a13 (.seq a14 c)))))))))))))) K ρ w :=
  wpc_seq _ (pt_sound hm a1 h) fun ρ w h => wpc_pre13 hm M h h2
theorem wpc_pre15 {a1 a2 a3 a4 a5 a6 a7 a8 a9 a10 a11 a12 a13 a14 a15 c : Code} (hm : P.follows .mixedOrders = true) (M : RK) (h : pt P N (.seq a1 (.seq a2 (.seq a3 (.seq a4 (.seq a5 (.seq a6 (.seq a7 (.seq a8 (.seq a9 (.seq a10 (.seq a11 (.seq a12 (.seq a13 (.seq a14 a15)))))))))))))) { norm := M, ret := K.ret, ex := K.ex } ρ w) (h2 : ∀ ρ w, M ρ w → wpc P N c K ρ w) : wpc P N (.seq a1 (.seq a2 (.seq a3 (.seq a4 (.seq a5 (.seq a6 (.seq a7 (.seq a8 (.seq a9 (.seq a10 (.seq a11 (.seq a12 (.seq a13 (.seq a14 (.seq a15 c))))))))))))))) K ρ w :=
  wpc_seq _ (pt_sound hm a1 h) fun ρ w h => wpc_pre14 hm M h h2
theorem wpc_pre16 {a1 a2 a3 a4 a5 a6 a7 a8 a9 a10 a11 a12 a13 a14 a15 a16 c : Code} (hm : P.follows .mixedOrders = true) (M : RK) (h : pt P N (.seq a1 (.seq a2 (.seq a3 (.seq a4 (.seq a5 (.seq a6 (.seq a7 (.seq a8 (.seq a9 (.seq a10 (.seq a11 (.seq a12 (.seq a13 (.seq a14 (.seq a15 a16))))))))))))))) { norm := M, ret := K.ret, ex := K.ex } ρ w) (h2 : ∀ ρ w, M ρ w → wpc P N c K ρ w) : wpc P N (.seq a1 (.seq a2 (.seq a3 (.seq a4 (.seq a5 (.seq a6 (.seq a7 (.seq a8 (.seq a9 (.seq a10 (.seq a11 (.seq a12 (.seq a13 (.seq a14 (.seq a15 (.seq a16 c)))))))))))))))) K ρ w :=
  wpc_seq _ (pt_sound hm a1 h) fun ρ w h => wpc_pre15 hm M h h2
theorem wpc_pre17 {a1 a2 a3 a4 a5 a6 a7 a8 a9 a10 a11 a12 a13 a14 a15 a16 a17 c : Code} (hm : P.follows .mixedOrders = true) (M : RK) (h : pt P N (.seq a1 (.seq a2 (.seq a3 (.seq a4 (.seq a5 (.seq a6 (.seq a7 (.seq a8 (.seq a9 (.seq a10 (.seq a11 (.seq a12 (.seq a13 (.seq a14 (.seq a15 (.seq a16 a17)))))))))))))))) { norm := M, ret := K.ret, ex := K.ex } ρ w) (h2 : ∀ ρ w, M ρ w → wpc P N c K ρ w) : wpc P N (.seq a1 (.seq a2 (.seq a3 (.seq a4 (.seq a5 (.seq a6 (.seq a7 (.seq a8 (.seq a9 (.seq a10 (.seq a11 (.seq a12 (.seq a13 (.seq a14 (.seq a15 (.seq a16 (.seq a17 c))))))))))))))))) K ρ w :=
  wpc_seq _ (pt_sound hm a1 h) fun ρ w h => wpc_pre16 hm M h h2
theorem wpc_pre18 {a1 a2 a3 a4 a5 a6 a7 a8 a9 a10 a11 a12 a13 a14 a15 a16 a17 a18 c : Code} (hm : P.follows .mixedOrders = true) (M : RK) (h : pt P N (.seq a1 (.seq a2 (.seq a3 (.seq a4 (.seq a5 (.seq a6 (.seq a7 (.seq a8 (.seq a9 (.seq a10 (.seq a11 (.seq a12 (.seq a13 (.seq a14 (.seq a15 (.seq a16 (.seq a17 a18))))))))))))))))) { norm := M, ret := K.ret, ex := K.ex } ρ w) (h2 : ∀ ρ w, M ρ w → wpc P N c K ρ w) : wpc P N (.seq a1 (.seq a2 (.seq a3 (.seq a4 (.seq a5 (.seq a6 (.seq a7 (.seq a8 (.seq a9 (.seq a10 (.seq a11 (.seq a12 (.seq a13 (.seq a14 (.seq a15 (.seq a16 (.seq a17 (.seq a18 c)))))))))))))))))) K ρ w :=
  wpc_seq _ (pt_sound hm a1 h) fun ρ w h => wpc_pre17 hm M h h2
theorem wpc_pre19 {a1 a2 a3 a4 a5 a6 a7 a8 a9 a10 a11 a12 a13 a14 a15 a16 a17 a18 a19 c : Code} (hm : P.follows .mixedOrders = true) (M : RK) (h : pt P N (.seq a1 (.seq a2 (.seq a3 (.seq a4 (.seq a5 (.seq a6 (.seq a7 (.seq a8 (.seq a9 (.seq a10 (.seq a11 (.seq a12 (.seq a13 (.seq a14 (.seq a15 (.seq a16 (.seq a17 (.seq a18 a19)))))))))))))))))) { norm := M, ret := K.ret, ex := K.ex } ρ w) (h2 : ∀ ρ w, M ρ w → wpc P N c K ρ w) : wpc P N (.seq a1 (.seq a2 (.seq a3 (.seq a4 (.seq a5 (.seq a6 (.seq a7 (.seq a8 (.seq a9 (.seq a10 (.seq a11 (.seq a12 (.seq a13 (.seq a14 (.seq a15 (.seq a16 (.seq a17 (.seq a18 (.seq a19 c))))))))))))))))))) K ρ w :=
  wpc_seq _ (pt_sound hm a1 h) fun ρ w h => wpc_pre18 hm M h h2
theorem wpc_pre20 {a1 a2 a3 a4 a5 a6 a7 a8 a9 a10 a11 a12 a13 a14 a15 a16 a17 a18 a19 a20 c : Code} (hm : P.follows .mixedOrders = true) (M : RK) (h : pt P N (.seq a1 (.seq a2 (.seq a3 (.seq a4 (.seq a5 (.seq a6 (.seq a7 (.seq a8 (.seq a9 (.seq a10 (.seq a11 (.seq a12 (.seq a13 (.seq a14 (.seq a15 (.seq a16 (.seq a17 (.seq a18 (.seq a19 a20))))))))))))))))))) { norm := M, ret := K.ret, ex := K.ex } ρ w) (h2 : ∀ ρ w, M ρ w → wpc P N c K ρ w) : wpc P N (.seq a1 (.seq a2 (.seq a3 (.seq a4 (.seq a5 (.seq a6 (.seq a7 (.seq a8 (.seq a9 (.seq a10 (.seq a11 (.seq a12 (.seq a13 (.seq a14 (.seq a15 (.seq a16 (.seq a17 (.seq a18 (.seq a19 (.seq a20 c)))))))))))))))))))) K ρ w :=
  wpc_seq _ (pt_sound hm a1 h) fun ρ w h => wpc_pre19 hm M h h2
theorem wpc_pre21 {a1 a2 a3 a4 a5 a6 a7 a8 a9 a10 a11 a12 a13 a14 a15 a16 a17 a18 a19 a20 a21 c : Code} (hm : P.follows .mixedOrders = true) (M : RK) (h : pt P N (.seq a1 (.seq a2 (.seq a3 (.seq a4 (.seq a5 (.seq a6 (.seq a7 (.seq a8 (.seq a9 (.seq a10 (.seq a11 (.seq a12 (.seq a13 (.seq a14 (.seq a15 (.seq a16 (.seq a17 (.seq a18 (.seq a19 (.seq a20 a21)))))))))))))))))))) { norm := M, ret := K.ret, ex := K.ex } ρ w) (h2 : ∀ ρ w, M ρ w → wpc P N c K ρ w) : wpc P N (.seq a1 (.seq a2 (.seq a3 (.seq a4 (.seq a5 (.seq a6 (.seq a7 (.seq a8 (.seq a9 (.seq a10 (.seq a11 (.seq a12 (.seq a13 (.seq a14 (.seq a15 (.seq a16 (.seq a17 (.seq a18 (.seq a19 (.seq a20 (.seq a21 c))))))))))))))))))))) K ρ w :=
  wpc_seq _ (pt_sound hm a1 h) fun ρ w h => wpc_pre20 hm M h h2
theorem wpc_pre22 {a1 a2 a3 a4 a5 a6 a7 a8 a9 a10 a11 a12 a13 a14 a15 a16 a17 a18 a19 a20 a21 a22 c : Code} (hm : P.follows .mixedOrders = true) (M : RK) (h : pt P N (.seq a1 (.seq a2 (.seq a3 (.seq a4 (.seq a5 (.seq a6 (.seq a7 (.seq a8 (.seq a9 (.seq a10 (.seq a11 (.seq a12 (.seq a13 (.seq a14 (.seq a15 (.seq a16 (.seq a17 (.seq a18 (.seq a19 (.seq a20 (.seq a21 a22))))))))))))))))))))) { norm := M, ret := K.ret, ex := K.ex } ρ w) (h2 : ∀ ρ w, M ρ w → wpc P N c K ρ w) : wpc P N (.seq a1 (.seq a2 (.seq a3 (.seq a4 (.seq a5 (.seq a6 (.seq a7 (.seq a8 (.seq a9 (.seq a10 (.seq a11 (.seq a12 (.seq a13 (.seq a14 (.seq a15 (.seq a16 (.seq a17 (.seq a18 (.seq a19 (.seq a20 (.seq a21 (.seq a22 c)))))))))))))))))))))) K ρ w :=
  wpc_seq _ (pt_sound hm a1 h) fun ρ w h => wpc_pre21 hm M h h2
theorem wpc_pre23 {a1 a2 a3 a4 a5 a6 a7 a8 a9 a10 a11 a12 a13 a14 a15 a16 a17 a18 a19 a20 a21 a22 a23 c : Code} (hm : P.follows .mixedOrders = true) (M : RK) (h : pt P N (.seq a1 (.seq a2 (.seq a3 (.seq a4 (.seq a5 (.seq a6 (.seq a7 (.seq a8 (.seq a9 (.seq a10 (.seq a11 (.seq a12 (.seq a13 (.seq a14 (.seq a15 (.seq a16 (.seq a17 (.seq a18 (.seq a19 (.seq a20 (.seq a21 (.seq a22 a23)))))))))))))))))))))) { norm := M, ret := K.ret, ex := K.ex } ρ w) (h2 : ∀ ρ w, M ρ w → wpc P N c K ρ w) : wpc P N (.seq a1 (.seq a2 (.seq a3 (.seq a4 (.seq a5 (.seq a6 (.seq a7 (.seq a8 (.seq a9 (.seq a10 (.seq a11 (.seq a12 (.seq a13 (.seq a14 (.seq a15 (.seq a16 (.seq a17 (.seq a18 (.seq a19 (.seq a20 (.seq a21 (.seq a22 (.seq a23 c))))))))))))))))))))))) K ρ w :=
  wpc_seq _ (pt_sound hm a1 h) fun ρ w h => wpc_pre22 hm M h h2
theorem wpc_pre24 {a1 a2 a3 a4 a5 a6 a7 a8 a9 a10 a11 a12 a13 a14 a15 a16 a17 a18 a19 a20 a21 a22 a23 a24 c : Code} (hm : P.follows .mixedOrders = true) (M : RK) (h : pt P N (.seq a1 (.seq a2 (.seq a3 (.seq a4 (.seq a5 (.seq a6 (.seq a7 (.seq a8 (.seq a9 (.seq a10 (.seq a11 (.seq a12 (.seq a13 (.seq a14 (.seq a15 (.seq a16 (.seq a17 (.seq a18 (.seq a19 (.seq a20 (.seq a21 (.seq a22 (.seq a23 a24))))))))))))))))))))))) { norm := M, ret := K.ret, ex := K.ex } ρ w) (h2 : ∀ ρ w, M ρ w → wpc P N c K ρ w) : wpc P N (.seq a1 (.seq a2 (.seq a3 (.seq a4 (.seq a5 (.seq a6 (.seq a7 (.seq a8 (.seq a9 (.seq a10 (.seq a11 (.seq a12 (.seq a13 (.seq a14 (.seq a15 (.seq a16 (.seq a17 (.seq a18 (.seq a19 (.seq a20 (.seq a21 (.seq a22 (.seq a23 (.seq a24 c)))))))))))))))))))))))) K ρ w :=
  wpc_seq _ (pt_sound hm a1 h) fun ρ w h => wpc_pre23 hm M h h2

theorem wpc_norm {c : Code} {M M' : RK} {r : RK} {x : List (Nat × RK)} (h : wpc P N c { norm := M, ret := r, ex := x } ρ w) (hM : ∀ ρ w, M ρ w → M' ρ w) : wpc P N c { norm := M', ret := r, ex := x } ρ w := by
  intro a hr
  refine wp_mono (h a hr) fun e a' w' hq => ?_
  obtain ⟨ρ', hr', hk⟩ := hq
  cases e with
  | normal => exact ⟨ρ', hr', hM _ _ hk⟩
  | ret => exact ⟨ρ', hr', hk⟩
  | exit id => exact ⟨ρ', hr', hk⟩
  | _ => exact hk.elim

theorem wpc_loopS {c : Code} {α : Type} (st : α → (Nat → Value) → Prop) (I : α → World → Prop) (μ : α → World → Nat) (s0 : α) (h0 : st s0 ρ) (hI : I s0 w)
    (hround : ∀ s ρ w, st s ρ → I s w → wpc P N c { norm := fun ρ' w' => ∃ s', st s' ρ' ∧ I s' w' ∧ μ s' w' < μ s w, ret := K.ret, ex := K.ex } ρ w) : wpc P N (.loop c) K ρ w := by
  let J : RK := fun ρ w => ∃ s, st s ρ ∧ I s w
  have hmin : ∀ ρ w, ∃ n, (∃ s, st s ρ ∧ I s w) → (∃ s, st s ρ ∧ I s w ∧ μ s w = n) ∧ ∀ s, st s ρ → I s w → n ≤ μ s w := by
    intro ρ w
    by_cases h : ∃ s, st s ρ ∧ I s w
    · obtain ⟨s, h1, h2⟩ := h
      have key : ∀ (n : Nat) (s : α), μ s w = n → st s ρ → I s w → ∃ k, (∃ s, st s ρ ∧ I s w ∧ μ s w = k) ∧ ∀ s, st s ρ → I s w → k ≤ μ s w := by
        intro n
        induction n using Nat.strongRecOn with
        | _ n ih =>
          intro s hn h1 h2
          by_cases hl : ∃ s', st s' ρ ∧ I s' w ∧ μ s' w < n
          · obtain ⟨s', g1, g2, g3⟩ := hl
            exact ih _ g3 s' rfl g1 g2
          · refine ⟨n, ⟨s, h1, h2, hn⟩, fun s' g1 g2 => ?_⟩
            rcases Nat.lt_or_ge (μ s' w) n with g | g
            · exact absurd ⟨s', g1, g2, g⟩ hl
            · exact g
      obtain ⟨k, hk⟩ := key _ s rfl h1 h2
      exact ⟨k, fun _ => hk⟩
    · exact ⟨0, fun h' => absurd h' h⟩
  let ν : (Nat → Value) → World → Nat := fun ρ w => Classical.choose (hmin ρ w)
  refine wpc_loop J ν ⟨s0, h0, hI⟩ fun ρ w hJ => ?_
  obtain ⟨⟨s1, h1, h2, h3⟩, _⟩ := Classical.choose_spec (hmin ρ w) hJ
  refine wpc_norm (hround s1 ρ w h1 h2) fun ρ' w' h => ?_
  obtain ⟨s', a1, a2, a3⟩ := h
  refine ⟨⟨s', a1, a2⟩, ?_⟩
  have hle := (Classical.choose_spec (hmin ρ' w') ⟨s', a1, a2⟩).2 s' a1 a2
  show Classical.choose (hmin ρ' w') < Classical.choose (hmin ρ w)
  omega

end

theorem hmix : Try.prog.follows .mixedOrders = true := by kernel_rfl

end Go.Proofs.Ythdmmmfgjmmelaa
