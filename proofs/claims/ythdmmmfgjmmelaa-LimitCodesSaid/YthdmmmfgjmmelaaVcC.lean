/- Operations that leave the world alone and look at none of it: what each comes to. Own work. -/
import Derived.Test.YthdmmmfgjmmelaaVcB
import Derived.Laws.Sem
namespace Go.Proofs.Ythdmmmfgjmmelaa
open Go
set_option linter.unusedSimpArgs false
set_option linter.unusedVariables false

/-- A slice's value as three parts. -/
structure Sl where
  a : Option Addr
  len : Nat
  cap : Nat

/-! ### words of the printed predicates -/

def asI (k : IntKind) (v : Value) (F : Int → Prop) : Prop := match v with
  | .int k' n => if k' = k then F n else False
  | _ => False
def asB (v : Value) (F : Bool → Prop) : Prop := match v with
  | .bool n => F n
  | _ => False
def asS (v : Value) (F : ByteArray → Prop) : Prop := match v with
  | .string n => F n
  | _ => False
def asP (v : Value) (F : Option Addr → Prop) : Prop := match v with
  | .pointer n => F n
  | _ => False
def asA (v : Value) (F : Addr → Prop) : Prop := match v with
  | .pointer (some n) => F n
  | _ => False
def asL (v : Value) (F : Sl → Prop) : Prop := match v with
  | .slice a l c => F ⟨a, l, c⟩
  | _ => False
def asM (v : Value) (F : Option Nat → Prop) : Prop := match v with
  | .map n => F n
  | _ => False
def asG (v : Value) (F : Array Value → Prop) : Prop := match v with
  | .agg n => F n
  | _ => False
def asF (v : Value) (F : Nat × Value → Prop) : Prop := match v with
  | .iface t x => F (t, x)
  | _ => False
/-- a closure over nothing · over one pointer ahead of the arguments · behind them -/
def asC0 (f : Nat) (v : Value) (F : Prop) : Prop := match v with
  | .func (.func g) ⟨[]⟩ ⟨[]⟩ => match Nat.beq g f with
    | true => F
    | false => False
  | _ => False
def asC1 (f : Nat) (v : Value) (F : Option Addr → Prop) : Prop := match v with
  | .func (.func g) ⟨[.pointer p]⟩ ⟨[]⟩ => match Nat.beq g f with
    | true => F p
    | false => False
  | _ => False
def asC2 (f : Nat) (v : Value) (F : Option Addr → Prop) : Prop := match v with
  | .func (.func g) ⟨[]⟩ ⟨[.pointer p]⟩ => match Nat.beq g f with
    | true => F p
    | false => False
  | _ => False
def asV (v : Value) (F : Value → Prop) : Prop := F v

theorem asI_el {k : IntKind} {v : Value} {F : Int → Prop} (h : asI k v F) : ∃ n, v = .int k n ∧ F n := by
  unfold asI at h
  split at h
  · split at h
    · rename_i hk; subst hk; exact ⟨_, rfl, h⟩
    · exact h.elim
  · exact h.elim
theorem asB_el {v : Value} {F : Bool → Prop} (h : asB v F) : ∃ n, v = .bool n ∧ F n := by
  unfold asB at h
  split at h <;> first | exact ⟨_, rfl, h⟩ | exact h.elim
theorem asS_el {v : Value} {F : ByteArray → Prop} (h : asS v F) : ∃ n, v = .string n ∧ F n := by
  unfold asS at h
  split at h <;> first | exact ⟨_, rfl, h⟩ | exact h.elim
theorem asP_el {v : Value} {F : Option Addr → Prop} (h : asP v F) : ∃ n, v = .pointer n ∧ F n := by
  unfold asP at h
  split at h <;> first | exact ⟨_, rfl, h⟩ | exact h.elim
theorem asA_el {v : Value} {F : Addr → Prop} (h : asA v F) : ∃ n, v = .pointer (some n) ∧ F n := by
  unfold asA at h
  split at h <;> first | exact ⟨_, rfl, h⟩ | exact h.elim
theorem asL_el {v : Value} {F : Sl → Prop} (h : asL v F) : ∃ n : Sl, v = .slice n.a n.len n.cap ∧ F n := by
  unfold asL at h
  split at h <;> first | exact ⟨_, rfl, h⟩ | exact h.elim
theorem asM_el {v : Value} {F : Option Nat → Prop} (h : asM v F) : ∃ n, v = .map n ∧ F n := by
  unfold asM at h
  split at h <;> first | exact ⟨_, rfl, h⟩ | exact h.elim
theorem asG_el {v : Value} {F : Array Value → Prop} (h : asG v F) : ∃ n, v = .agg n ∧ F n := by
  unfold asG at h
  split at h <;> first | exact ⟨_, rfl, h⟩ | exact h.elim
theorem asV_el {v : Value} {F : Value → Prop} (h : asV v F) : ∃ n, v = n ∧ F n := ⟨_, rfl, h⟩

theorem asF_el {v : Value} {F : Nat × Value → Prop} (h : asF v F) : ∃ n : Nat × Value, v = .iface n.1 n.2 ∧ F n := by
  unfold asF at h
  split at h <;> first | exact ⟨_, rfl, h⟩ | exact h.elim
theorem asC0_el {f : Nat} {v : Value} {F : Prop} (h : asC0 f v F) : v = .func (.func f) ⟨[]⟩ ⟨[]⟩ ∧ F := by
  unfold asC0 at h
  split at h
  · split at h
    · rename_i hb; have := Nat.eq_of_beq_eq_true hb; subst this; exact ⟨rfl, h⟩
    · exact h.elim
  · exact h.elim
theorem asC1_el {f : Nat} {v : Value} {F : Option Addr → Prop} (h : asC1 f v F) : ∃ n, v = .func (.func f) ⟨[.pointer n]⟩ ⟨[]⟩ ∧ F n := by
  unfold asC1 at h
  split at h
  · split at h
    · rename_i hb; have := Nat.eq_of_beq_eq_true hb; subst this; exact ⟨_, rfl, h⟩
    · exact h.elim
  · exact h.elim
theorem asC2_el {f : Nat} {v : Value} {F : Option Addr → Prop} (h : asC2 f v F) : ∃ n, v = .func (.func f) ⟨[]⟩ ⟨[.pointer n]⟩ ∧ F n := by
  unfold asC2 at h
  split at h
  · split at h
    · rename_i hb; have := Nat.eq_of_beq_eq_true hb; subst this; exact ⟨_, rfl, h⟩
    · exact h.elim
  · exact h.elim

/-- a value of a type, taken by its kind -/
def asT (P : Program) (t : TypeId) (v : Value) (K : Value → Prop) : Prop :=
  match P.underlying t with
  | some (.int k) => asI k v fun n => K (.int k n)
  | some .bool => asB v fun n => K (.bool n)
  | some .string => asS v fun n => K (.string n)
  | some (.pointer _) => asP v fun n => K (.pointer n)
  | some (.slice _) => asL v fun n => K (.slice n.a n.len n.cap)
  | some (.map _ _) => asM v fun n => K (.map n)
  | some (.struct _) => asG v fun n => K (.agg n)
  | some (.array _ _) => asG v fun n => K (.agg n)
  | some _ => K v
  | none => False

theorem asT_el {P : Program} {t : TypeId} {v : Value} {K : Value → Prop} (h : asT P t v K) : K v := by
  unfold asT at h
  split at h <;> first
    | exact h.elim
    | exact h
    | (have h' := asI_el h
       obtain ⟨n, e, h'⟩ := h'
       rw [e]; exact h')
    | (have h' := asB_el h
       obtain ⟨n, e, h'⟩ := h'
       rw [e]; exact h')
    | (have h' := asS_el h
       obtain ⟨n, e, h'⟩ := h'
       rw [e]; exact h')
    | (have h' := asP_el h
       obtain ⟨n, e, h'⟩ := h'
       rw [e]; exact h')
    | (have h' := asL_el h
       obtain ⟨n, e, h'⟩ := h'
       rw [e]; exact h')
    | (have h' := asM_el h
       obtain ⟨n, e, h'⟩ := h'
       rw [e]; exact h')
    | (have h' := asG_el h
       obtain ⟨n, e, h'⟩ := h'
       rw [e]; exact h')

def eqT (a b : Nat) (K : Prop) : Prop := match Nat.beq a b with
  | true => K
  | false => False
theorem eqT_el {a b : Nat} {K : Prop} (h : eqT a b K) : a = b ∧ K := by
  unfold eqT at h
  split at h
  · rename_i hb; exact ⟨Nat.eq_of_beq_eq_true hb, h⟩
  · exact h.elim


def br (b : Bool) (A B : Prop) : Prop := match b with
  | true => A
  | false => B

def nz (p : Option Addr) (K : Addr → Prop) : Prop := match p with
  | some a => K a
  | none => False

/-- an index into a slice -/
def ixS (base : Option Addr) (len : Nat) (i : Int) (sz : Nat) (K : Addr → Prop) : Prop := nz base fun a => (0 ≤ i ∧ i < (len : Int)) ∧ K (a.add (i.toNat * sz))
/-- an index into an array in memory -/
def ixA (a : Addr) (n : Nat) (i : Int) (sz : Nat) (K : Addr → Prop) : Prop := (0 ≤ i ∧ i < (n : Int)) ∧ K (a.add (i.toNat * sz))
/-- a bound of a slice expression -/
def bd (i : Int) (y : Nat) (K : Nat → Prop) : Prop := (0 ≤ i ∧ i ≤ (y : Int)) ∧ K i.toNat
def cutA (a : Option Addr) (m l sz : Nat) : Option Addr := if m = l then a else a.map (·.add (l * sz))
def cutP (a : Addr) (m l sz : Nat) : Option Addr := some (if m = l then a else a.add (l * sz))

def shlV (k : IntKind) (x y : Int) : Int := k.wrap (x * 2 ^ (min y.toNat k.bits))
def shrV (k : IntKind) (x y : Int) : Int := x.fdiv (2 ^ (min y.toNat k.bits))
def andV (k : IntKind) (x y : Int) : Int := k.wrap (BitVec.ofInt k.bits x &&& BitVec.ofInt k.bits y).toNat
def orV (k : IntKind) (x y : Int) : Int := k.wrap (BitVec.ofInt k.bits x ||| BitVec.ofInt k.bits y).toNat
def xorV (k : IntKind) (x y : Int) : Int := k.wrap (BitVec.ofInt k.bits x ^^^ BitVec.ofInt k.bits y).toNat
def andNotV (k : IntKind) (x y : Int) : Int := k.wrap (BitVec.ofInt k.bits x &&& ~~~BitVec.ofInt k.bits y).toNat

/-- the typed part of a row of cells -/
def ptI (k : IntKind) (cs : Array Value) (j : Nat) (K : Int → Prop) : Prop := ∃ n, cs[j]? = some (.int k n) ∧ K n
def ptB (cs : Array Value) (j : Nat) (K : Bool → Prop) : Prop := ∃ n, cs[j]? = some (.bool n) ∧ K n
def ptS (cs : Array Value) (j : Nat) (K : ByteArray → Prop) : Prop := ∃ n, cs[j]? = some (.string n) ∧ K n
def ptA (cs : Array Value) (j : Nat) (K : Option Addr → Prop) : Prop := ∃ n, cs[j]? = some (.pointer n) ∧ K n
def ptL (cs : Array Value) (j : Nat) (K : Sl → Prop) : Prop := ∃ n : Sl, cs[j]? = some (.slice n.a n.len n.cap) ∧ K n
def ptM (cs : Array Value) (j : Nat) (K : Option Nat → Prop) : Prop := ∃ n, cs[j]? = some (.map n) ∧ K n
def ptV (cs : Array Value) (j : Nat) (K : Value → Prop) : Prop := ∃ n, cs[j]? = some n ∧ K n
def ptF (cs : Array Value) (j : Nat) (K : Nat × Value → Prop) : Prop := ∃ n : Nat × Value, cs[j]? = some (.iface n.1 n.2) ∧ K n

def withSz (P : Program) (t : TypeId) (K : Nat → Prop) : Prop := match P.info? t with
  | some i => K i.size
  | none => False

def partP (P : Program) (t : TypeId) (cs : Array Value) (off : Nat) (K : Value → Prop) : Prop :=
  match P.underlying t with
  | some (.int k) => ptI k cs off fun n => K (.int k n)
  | some .bool => ptB cs off fun n => K (.bool n)
  | some .string => ptS cs off fun n => K (.string n)
  | some (.pointer _) => ptA cs off fun n => K (.pointer n)
  | some (.slice _) => ptL cs off fun n => K (.slice n.a n.len n.cap)
  | some (.map _ _) => ptM cs off fun n => K (.map n)
  | some (.struct _) => withSz P t fun sz => K (.agg (cs.extract off (off + sz)))
  | some (.array _ _) => withSz P t fun sz => K (.agg (cs.extract off (off + sz)))
  | some (.func _ _ _) => ptV cs off K
  | some (.interface _) => ptF cs off fun n => K (.iface n.1 n.2)
  | _ => False

theorem run_underlying {P : Program} {t : TypeId} {d : TypeDesc} (h : P.underlying t = some d) (w : World) : (underlying t).run P w = .ok d w := by
  simp [underlying, h]
theorem run_typeInfo {P : Program} {t : TypeId} {d : TypeInfo} (h : P.info? t = some d) (w : World) : (typeInfo t).run P w = .ok d w := by
  simp [typeInfo, h]
theorem run_sizeOf {P : Program} {t : TypeId} {d : TypeInfo} (h : P.info? t = some d) (w : World) : (sizeOf t).run P w = .ok d.size w := by
  simp [sizeOf, run_typeInfo h]
theorem run_isAgg {P : Program} {t : TypeId} {d : TypeDesc} (h : P.underlying t = some d) (w : World) : (isAgg t).run P w = .ok (match d with | .struct _ | .array _ _ => true | _ => false) w := by
  simp [isAgg, run_underlying h]
  cases d <;> rfl

/-- A value that an operation gives in every world. -/
def PV (P : Program) (s : Sem Value) (v : Value) : Prop := ∀ w, s.run P w = .ok v w

theorem part_sound {P : Program} {t : TypeId} {cs : Array Value} {off : Nat} {K : Value → Prop} (h : partP P t cs off K) : ∃ v, PV P (part t cs off) v ∧ K v := by
  unfold partP at h
  split at h <;> first
    | exact h.elim
    | (rename_i hu
       obtain ⟨n, hc, hk⟩ := h
       refine ⟨_, fun w => ?_, hk⟩
       simp [part, run_isAgg hu, hc])
    | (rename_i hu
       unfold withSz at h
       split at h
       · rename_i i hi
         refine ⟨_, fun w => ?_, h⟩
         simp [part, run_isAgg hu, run_sizeOf hi]
       · exact h.elim)

/-! ### binary operations -/

/-- a row of numbers -/
def ints (k : IntKind) (l : List Int) : Array Value := ⟨l.map fun n => Value.int k n⟩

/-- two arrays of numbers are held against each other -/
def eqA (k : IntKind) (n : Nat) (cs ds : Array Value) (K : Bool → Prop) : Prop := ∃ xs ys : List Int, cs = ints k xs ∧ ds = ints k ys ∧ xs.length = n ∧ ys.length = n ∧ K (xs == ys)

def sameK (k k' : IntKind) (A : Prop) : Prop := if k = k' then A else False

def ptBin (P : Program) (op : BinOp) (t : TypeId) (x y : Value) (K : Value → Prop) : Prop :=
  match x, y with
  | .int k a, .int k' b =>
    match op with
    | .add => sameK k k' (K (.int k (k.wrap (a + b))))
    | .sub => sameK k k' (K (.int k (k.wrap (a - b))))
    | .mul => sameK k k' (K (.int k (k.wrap (a * b))))
    | .quo => sameK k k' (b ≠ 0 ∧ K (.int k (k.wrap (a.tdiv b))))
    | .rem => sameK k k' (b ≠ 0 ∧ K (.int k (a.tmod b)))
    | .and => sameK k k' (K (.int k (andV k a b)))
    | .or => sameK k k' (K (.int k (orV k a b)))
    | .xor => sameK k k' (K (.int k (xorV k a b)))
    | .andNot => sameK k k' (K (.int k (andNotV k a b)))
    | .shl => 0 ≤ b ∧ K (.int k (shlV k a b))
    | .shr => 0 ≤ b ∧ K (.int k (shrV k a b))
    | .eql => sameK k k' (K (.bool (a == b)))
    | .neq => sameK k k' (K (.bool (a != b)))
    | .lss => sameK k k' (K (.bool (decide (a < b))))
    | .leq => sameK k k' (K (.bool (decide (a ≤ b))))
    | .gtr => sameK k k' (K (.bool (decide (a > b))))
    | .geq => sameK k k' (K (.bool (decide (a ≥ b))))
  | .string a, .string b =>
    match op with
    | .eql => K (.bool (a.toList == b.toList))
    | .neq => K (.bool (!(a.toList == b.toList)))
    | .add => ((a.size + b.size : Nat) : Int) ≤ IntKind.i64.max ∧ K (.string (a ++ b))
    | .lss => K (.bool (Op.bytesLess a.toList b.toList))
    | _ => False
  | .bool a, .bool b =>
    match P.underlying t, op with
    | some .bool, .eql => K (.bool (a == b))
    | some .bool, .neq => K (.bool (!(a == b)))
    | _, _ => False
  | .pointer a, .pointer none =>
    match P.underlying t, op with
    | some (.pointer _), .eql => K (.bool a.isNone)
    | some (.pointer _), .neq => K (.bool (!a.isNone))
    | _, _ => False
  | .slice a _ _, .slice none _ _ =>
    match P.underlying t, op with
    | some (.slice _), .eql => K (.bool a.isNone)
    | some (.slice _), .neq => K (.bool (!a.isNone))
    | _, _ => False
  | .map a, .map none =>
    match P.underlying t, op with
    | some (.map _ _), .eql => K (.bool a.isNone)
    | some (.map _ _), .neq => K (.bool (!a.isNone))
    | _, _ => False
  | .agg cs, .agg ds =>
    match P.underlying t with
    | some (.array n e) =>
      match P.underlying e with
      | some (.int k) => withSz P e fun sz => match Nat.beq sz 1 with
        | true => match op with
          | .eql => eqA k n cs ds fun b => K (.bool b)
          | .neq => eqA k n cs ds fun b => K (.bool (!b))
          | _ => False
        | false => False
      | _ => False
    | _ => False
  | _, _ => False

theorem eqGuard_other {P : Program} {op : BinOp} {t : TypeId} {x y : Operand} {a b : Value} (ha : ∀ c, a ≠ .agg c) (hn : a ≠ .nilIface) (w : World) : (eqGuard op t x y a b).run P w = .ok () w := by
  unfold eqGuard
  cases a <;> first | (exact absurd rfl (ha _)) | exact absurd rfl hn | (cases op <;> rfl)

theorem equal_run {P : Program} {t : TypeId} {d : TypeDesc} (h : P.underlying t = some d) (x y : Value) (w : World) (r : Bool)
    (hr : ∀ (n : Nat), (Op.equalIn (n + 1) t x y).run P w = .ok r w) : (Op.equal t x y).run P w = .ok r w := hr 9999

theorem equal_bool {P : Program} {t : TypeId} (h : P.underlying t = some .bool) (a b : Bool) (w : World) : (Op.equal t (.bool a) (.bool b)).run P w = .ok (a == b) w :=
  equal_run h _ _ w _ fun n => by rw [Op.equalIn, Sem.run_bind, run_underlying h]; rfl
theorem equal_ptr {P : Program} {t e : TypeId} (h : P.underlying t = some (.pointer e)) (a : Option Addr) (w : World) : (Op.equal t (.pointer a) (.pointer none)).run P w = .ok a.isNone w :=
  equal_run h _ _ w _ fun n => by rw [Op.equalIn, Sem.run_bind, run_underlying h]; cases a <;> rfl
theorem equal_slice {P : Program} {t e : TypeId} (h : P.underlying t = some (.slice e)) (a : Option Addr) (n c n' c' : Nat) (w : World) : (Op.equal t (.slice a n c) (.slice none n' c')).run P w = .ok a.isNone w :=
  equal_run h _ _ w _ fun n => by rw [Op.equalIn, Sem.run_bind, run_underlying h]; cases a <;> rfl
theorem equal_map {P : Program} {t e f : TypeId} (h : P.underlying t = some (.map e f)) (a : Option Nat) (w : World) : (Op.equal t (.map a) (.map none)).run P w = .ok a.isNone w :=
  equal_run h _ _ w _ fun n => by rw [Op.equalIn, Sem.run_bind, run_underlying h]; cases a <;> rfl

theorem ints_size (k : IntKind) (l : List Int) : (ints k l).size = l.length := by simp [ints]
theorem ints_get {k : IntKind} {l : List Int} {i : Nat} (h : i < l.length) : (ints k l)[i]? = some (.int k l[i]) := by simp [ints, h]

theorem loop_run {P : Program} (g : Nat → Bool) (w : World) (h : Nat → Option Bool × Unit → Sem (ForInStep (Option Bool × Unit))) : ∀ (l : List Nat),
    (∀ i ∈ l, (h i (none, ())).run P w = .ok (if g i then ForInStep.yield (none, ()) else ForInStep.done (some false, ())) w) →
    (forIn l (none, ()) h).run P w = .ok (if l.all g then (none, ()) else (some false, ())) w := by
  intro l
  induction l with
  | nil => intro _; simp
  | cons i r ih =>
    intro hb
    rw [List.forIn_cons, Sem.run_bind, hb i (by simp), Result.andThen_ok]
    cases hg : g i with
    | false => simp [hg]
    | true =>
      simp only [if_true]
      rw [ih fun j hj => hb j (by simp [hj])]
      simp [hg]

theorem equal_arr {P : Program} {t e : TypeId} {n : Nat} {k : IntKind} {i : TypeInfo} (h : P.underlying t = some (.array n e)) (he : P.underlying e = some (.int k)) (hi : P.info? e = some i) (h1 : i.size = 1) (xs ys : List Int) (hx : xs.length = n) (hy : ys.length = n) (w : World) :
    (Op.equal t (.agg (ints k xs)) (.agg (ints k ys))).run P w = .ok (xs == ys) w := by
  show (Op.equalIn (9998 + 1 + 1) t _ _).run P w = _
  rw [Op.equalIn, Sem.run_bind, run_underlying h, Result.andThen_ok]
  simp only [Sem.run_bind, run_sizeOf hi, Result.andThen_ok, Std.Legacy.Range.forIn_eq_forIn_range']
  have hall : (List.range' 0 (Std.Legacy.Range.size [:n])).all (fun j => xs[j]? == ys[j]?) = (xs == ys) := by
    have hsz : Std.Legacy.Range.size [:n] = n := by simp [Std.Legacy.Range.size]
    rw [hsz, Bool.eq_iff_iff, List.all_eq_true, beq_iff_eq]
    constructor
    · intro ha
      apply List.ext_getElem?
      intro j
      by_cases hj : j < n
      · have := ha j (by simp [List.mem_range']; omega)
        simpa using this
      · rw [List.getElem?_eq_none (by omega), List.getElem?_eq_none (by omega)]
    · rintro rfl j _
      simp
  rw [loop_run (fun j => xs[j]? == ys[j]?)]
  · rw [hall, Result.andThen_ok]
    cases (xs == ys) <;> rfl
  · intro j hj
    have hjn : j < n := by
      simp [List.mem_range', Std.Legacy.Range.size] at hj
      omega
    have hpx : (part e (ints k xs) (j * i.size)).run P w = .ok (.int k xs[j]) w := by
      simp [part, run_isAgg he, h1, ints_get (show j < xs.length by omega)]
    have hpy : (part e (ints k ys) (j * i.size)).run P w = .ok (.int k ys[j]) w := by
      simp [part, run_isAgg he, h1, ints_get (show j < ys.length by omega)]
    have heq : (Op.equalIn (9998 + 1) e (.int k xs[j]) (.int k ys[j])).run P w = .ok (xs[j] == ys[j]) w := by
      rw [Op.equalIn, Sem.run_bind, run_underlying he, Result.andThen_ok]
      simp
    simp only [Sem.run_bind, hpx, hpy, heq, Result.andThen_ok]
    have e1 : (xs[j]? == ys[j]?) = (xs[j] == ys[j]) := by
      rw [List.getElem?_eq_getElem (by omega), List.getElem?_eq_getElem (by omega)]
      rfl
    rw [e1]
    cases (xs[j] == ys[j]) <;> rfl

theorem guard_arr {P : Program} {op : BinOp} {t e : TypeId} {n : Nat} {k : IntKind} {x y : Operand} (h : P.underlying t = some (.array n e)) (he : P.underlying e = some (.int k)) (cs ds : Array Value) (w : World) :
    (eqGuard op t x y (.agg cs) (.agg ds)).run P w = .ok () w := by
  have hd : ∃ d, P.depth = d + 1 + 1 := ⟨2 * (P.types.size + Made.depth), by unfold Program.depth; rfl⟩
  obtain ⟨d, hd⟩ := hd
  have hg : P.eqGuardType P.depth t = false := by
    rw [hd]
    simp [Program.eqGuardType, h, he]
  unfold eqGuard
  cases op <;> simp [hg]

theorem bin_sound {P : Program} {op : BinOp} {t : TypeId} {x y : Value} {ox oy : Operand} {K : Value → Prop} (h : ptBin P op t x y K) :
    ∃ v, PV P (do eqGuard op t ox oy x y; binOp op t x y) v ∧ K v := by
  unfold ptBin at h
  split at h
  · rename_i k a k' b
    cases op <;> simp only [sameK] at h <;> first
      | (split at h <;> first
          | (rename_i hk
             subst hk
             first
               | (refine ⟨_, fun w => ?_, h⟩
                  simp [eqGuard_other, binOp, Op.intArith, Op.intBits, Op.intCmp, andV, orV, xorV, andNotV]; done)
               | (obtain ⟨h0, h⟩ := h
                  refine ⟨_, fun w => ?_, h⟩
                  simp [eqGuard_other, binOp, Op.intDiv, h0]; done))
          | exact h.elim)
      | (obtain ⟨h0, h⟩ := h
         refine ⟨_, fun w => ?_, h⟩
         have h1 : ¬ b < 0 := by omega
         simp [eqGuard_other, binOp, Op.shift, h1, shlV, shrV])
  · rename_i a b
    cases op <;> simp only at h <;> first
      | exact h.elim
      | (refine ⟨_, fun w => ?_, h⟩
         simp [eqGuard_other, binOp, Op.stringOp]; done)
      | (obtain ⟨h0, h⟩ := h
         refine ⟨_, fun w => ?_, h⟩
         have h1 : ¬ ((a.size + b.size : Nat) : Int) > IntKind.i64.max := by omega
         simp only [Sem.run_bind, eqGuard_other (a := .string a) (by simp) (by simp), Result.andThen_ok, binOp, Op.stringOp, if_neg h1]
         rfl)
  · rename_i a b
    split at h <;> first
      | exact h.elim
      | (rename_i hu
         refine ⟨_, fun w => ?_, h⟩
         simp [eqGuard_other, binOp, equal_bool hu])
  · rename_i a
    split at h <;> first
      | exact h.elim
      | (rename_i hu
         refine ⟨_, fun w => ?_, h⟩
         cases a <;> simp [eqGuard_other, binOp, equal_ptr hu])
  · rename_i a _ _ _ _
    split at h <;> first
      | exact h.elim
      | (rename_i hu
         refine ⟨_, fun w => ?_, h⟩
         cases a <;> simp [eqGuard_other, binOp, equal_slice hu])
  · rename_i a
    split at h <;> first
      | exact h.elim
      | (rename_i hu
         refine ⟨_, fun w => ?_, h⟩
         cases a <;> simp [eqGuard_other, binOp, equal_map hu])
  · rename_i cs ds
    split at h <;> first | exact h.elim | skip
    rename_i n e hu
    split at h <;> first | exact h.elim | skip
    rename_i k he
    unfold withSz at h
    split at h <;> first | exact h.elim | skip
    rename_i i hi
    split at h <;> first | exact h.elim | skip
    rename_i hsz
    have h1 : i.size = 1 := Nat.eq_of_beq_eq_true hsz
    cases op <;> simp only at h <;> first
      | exact h.elim
      | (obtain ⟨xs, ys, rfl, rfl, hx, hy, hk⟩ := h
         refine ⟨_, fun w => ?_, hk⟩
         simp [guard_arr hu he, binOp, equal_arr hu he hi h1 xs ys hx hy])
  · exact h.elim

end Go.Proofs.Ythdmmmfgjmmelaa
