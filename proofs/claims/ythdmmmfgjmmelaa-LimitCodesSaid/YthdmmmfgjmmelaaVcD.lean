/- All operations that leave the world alone, in one predicate; and those that read or make memory. Own work. -/
import Derived.Test.YthdmmmfgjmmelaaVcC
namespace Go.Proofs.Ythdmmmfgjmmelaa
open Go
set_option linter.unusedSimpArgs false
set_option linter.unusedVariables false

/-! ### pure operations -/

def ptNil (x : Value) (K : Value → Prop) : Prop :=
  match x with
  | .pointer p => nz p fun a => K (.pointer (some a))
  | .func (.func f) first captured => K (.func (.func f) first captured)
  | .iface t v => K (.iface t v)
  | _ => False

def ptUn (op : UnOp) (x : Value) (K : Value → Prop) : Prop :=
  match op, x with
  | .not, .bool b => K (.bool !b)
  | .neg, .int k n => K (.int k (k.wrap (0 - n)))
  | .xor, .int k n => K (.int k (xorV k (if k.signed then -1 else k.max) n))
  | _, _ => False

def ptConvI (P : Program) (src dst : TypeId) (x : Value) (K : Value → Prop) : Prop :=
  match P.underlying src with
  | none => False
  | some _ =>
    match P.underlying dst, x with
    | some (.int k), .int _ n => K (.int k (k.wrap n))
    | some .string, .string s => K (.string s)
    | _, _ => False

def ptFieldAddr (P : Program) (s : TypeId) (x : Value) (f : Nat) (K : Value → Prop) : Prop :=
  match P.underlying s with
  | some (.struct fs) =>
    match fs[f]? with
    | some fd =>
      match x with
      | .pointer (some a) => withSz P fd.type fun sz => if sz = 0 then False else K (.pointer (some (a.add fd.offset)))
      | _ => False
    | none => False
  | _ => False

def ptField (P : Program) (t : TypeId) (x : Value) (f : Nat) (K : Value → Prop) : Prop :=
  match P.underlying t with
  | some (.struct fs) =>
    match fs[f]? with
    | some fd =>
      match x with
      | .agg cs => partP P fd.type cs fd.offset K
      | _ => False
    | none => False
  | _ => False

def ptIndexAddr (P : Program) (t : TypeId) (x ix : Value) (K : Value → Prop) : Prop :=
  match ix with
  | .int _ i =>
    match P.underlying t, x with
    | some (.slice e), .slice base len _ => withSz P e fun sz => ixS base len i sz fun a => K (.pointer (some a))
    | some (.array n e), .pointer (some a) => withSz P e fun sz => ixA a n i sz fun a => K (.pointer (some a))
    | _, _ => False
  | _ => False

def byteAt (s : ByteArray) (i : Nat) : Int := ((s.data.toList.getD i 0).toNat : Int)

def ptIndex (P : Program) (t : TypeId) (x ix : Value) (K : Value → Prop) : Prop :=
  match ix with
  | .int _ i =>
    match P.underlying t, x with
    | some (.array n e), .agg cs => withSz P e fun sz => (0 ≤ i ∧ i < (n : Int)) ∧ partP P e cs (i.toNat * sz) K
    | some .string, .string s => (0 ≤ i ∧ i < (s.size : Int)) ∧ K (.int .u8 (byteAt s i.toNat))
    | _, _ => False
  | _ => False

def bdO (x : Option Value) (y d : Nat) (K : Nat → Prop) : Prop :=
  match x with
  | none => K d
  | some (.int _ i) => bd i y K
  | _ => False

def ptSlice (P : Program) (t : TypeId) (x : Value) (lo hi mx : Option Value) (K : Value → Prop) : Prop :=
  match P.underlying t, x with
  | some (.slice e), .slice a len cap => withSz P e fun sz => bdO mx cap cap fun m => bdO hi m len fun h => bdO lo h 0 fun l => K (.slice (cutA a m l sz) (h - l) (m - l))
  | some (.array n e), .pointer (some a) => withSz P e fun sz => bdO mx n n fun m => bdO hi m n fun h => bdO lo h 0 fun l => K (.slice (cutP a m l sz) (h - l) (m - l))
  | some .string, .string s =>
    match mx with
    | none => bdO hi s.size s.size fun h => bdO lo h 0 fun l => K (.string (s.extract l h))
    | some _ => False
  | _, _ => False

def ptExtract (x : Value) (i : Nat) (K : Value → Prop) : Prop :=
  match x with
  | .tuple vs => match vs.toList[i]? with
    | some v => K v
    | none => False
  | _ => False

def ptMkI (P : Program) (t : TypeId) (x : Value) (K : Value → Prop) : Prop :=
  match P.underlying t with
  | some (.interface _) => False
  | some _ => K (.iface t x)
  | none => False

def ptArrPtr (P : Program) (t : TypeId) (x : Value) (K : Value → Prop) : Prop :=
  match P.underlying t, x with
  | some (.array n _), .slice a len _ => n ≤ len ∧ nz a fun ad => K (.pointer (some ad))
  | _, _ => False

def ptAssert (P : Program) (x : Value) (asserted : TypeId) (ok : Bool) (K : Value → Prop) : Prop :=
  match P.underlying asserted, x with
  | some (.interface _), _ => False
  | some _, .iface t v => eqT t asserted (asT P asserted v fun v => match ok with
    | true => K (.tuple #[v, .bool true])
    | false => K v)
  | _, _ => False

def ptLen (P : Program) (t : TypeId) (x : Value) (K : Value → Prop) : Prop :=
  match P.underlying t, x with
  | some .string, .string s => K (.int .i64 s.size)
  | some (.slice _), .slice _ n _ => K (.int .i64 n)
  | some (.array n _), _ => K (.int .i64 n)
  | _, _ => False

def ptCap (P : Program) (t : TypeId) (x : Value) (K : Value → Prop) : Prop :=
  match P.underlying t, x with
  | some (.slice _), .slice _ _ n => K (.int .i64 n)
  | _, _ => False

def ptMin (l : List Value) (K : Value → Prop) : Prop :=
  match l with
  | [.int k x, .int _ y] => K (.int k (if y < x then y else x))
  | _ => False
def ptMax (l : List Value) (K : Value → Prop) : Prop :=
  match l with
  | [.int k x, .int _ y] => K (.int k (if y > x then y else x))
  | _ => False

/-- which calls are pure: some builtins -/
def pureCall (P : Program) (c : Call) : Bool :=
  match c.callee with
  | .builtin .len => match c.argTypes.toList with
    | t :: _ => match P.underlying t with
      | some (.map _ _) => false
      | _ => true
    | [] => false
  | .builtin .cap => true
  | .builtin .min => true
  | .builtin .max => true
  | _ => false

def pureConv (P : Program) (src dst : TypeId) : Bool :=
  match P.underlying src, P.underlying dst with
  | some (.int _), some (.int _) => true
  | some .string, some .string => true
  | _, _ => false

def isPure (P : Program) (o : Oper) : Bool :=
  match o.op with
  | .move _ | .assign _ | .pick .. | .nilCheck _ | .binOp .. | .unOp .. | .fieldAddr .. | .field .. | .indexAddr .. | .index .. | .slice .. | .extract .. | .makeInterface .. | .makeFunc .. | .sliceToArrayPointer .. | .typeAssert .. => true
  | .convert s d _ => pureConv P s d
  | .call c => pureCall P c
  | _ => false

def ptPickV (c a b : Value) (K : Value → Prop) : Prop :=
  match c with
  | .bool t => br t (K a) (K b)
  | _ => False

def ptPureCall (P : Program) (ρ : Operand → Value) (c : Call) (K : Value → Prop) : Prop :=
  match c.callee, c.args.toList with
  | .builtin .len, [x] => match c.argTypes.toList with
    | t :: _ => ptLen P t (ρ x) K
    | [] => False
  | .builtin .cap, [x] => match c.argTypes.toList with
    | t :: _ => ptCap P t (ρ x) K
    | [] => False
  | .builtin .min, l => ptMin (l.map ρ) K
  | .builtin .max, l => ptMax (l.map ρ) K
  | _, _ => False

def ptP (P : Program) (o : Oper) (ρ : Operand → Value) (K : Value → Prop) : Prop :=
  match o.op with
  | .move x => K (ρ x)
  | .assign x => K (ρ x)
  | .pick c a b => ptPickV (ρ c) (ρ a) (ρ b) K
  | .nilCheck x => ptNil (ρ x) K
  | .binOp op t x y _ => ptBin P op t (ρ x) (ρ y) K
  | .unOp op _ x => ptUn op (ρ x) K
  | .convert s d x => ptConvI P s d (ρ x) K
  | .fieldAddr s x f => ptFieldAddr P s (ρ x) f K
  | .field t x f => ptField P t (ρ x) f K
  | .indexAddr t x i => ptIndexAddr P t (ρ x) (ρ i) K
  | .index t x i => ptIndex P t (ρ x) (ρ i) K
  | .slice t x lo hi mx => ptSlice P t (ρ x) (lo.map ρ) (hi.map ρ) (mx.map ρ) K
  | .extract x i => ptExtract (ρ x) i K
  | .makeInterface t x => ptMkI P t (ρ x) K
  | .makeFunc fn first captured => K (.func fn ⟨first.toList.map ρ⟩ ⟨captured.toList.map ρ⟩)
  | .sliceToArrayPointer t x => ptArrPtr P t (ρ x) K
  | .typeAssert x _ t ok => ptAssert P (ρ x) t ok K
  | .call c => ptPureCall P ρ c K
  | _ => False

/-- an operation whose run is 'value' of a Sem -/
theorem val_sound {P : Program} {s : Sem Value} {K : Value → Prop} (h : ∃ v, PV P s v ∧ K v) : ∃ v, (∀ w, (do pure (Next.value (← s)) : Sem Next).run P w = .ok (.value v) w) ∧ K v := by
  obtain ⟨v, hv, hk⟩ := h
  exact ⟨v, fun w => by simp [hv w], hk⟩

theorem bound_run {P : Program} {k : IntKind} {i : Int} {y : Nat} {c : BoundsCode} (h : 0 ≤ i ∧ i ≤ (y : Int)) (w : World) : (Instr.sliceBound (.int k i) y c).run P w = .ok i.toNat w := by
  simp [Instr.sliceBound, asIntOf, h]

theorem bdO_some {x : Value} {y d : Nat} {K : Nat → Prop} (h : bdO (some x) y d K) : ∃ k i, x = .int k i ∧ (0 ≤ i ∧ i ≤ (y : Int)) ∧ K i.toNat := by
  unfold bdO at h
  cases x <;> first | exact h.elim | exact ⟨_, _, rfl, h.1, h.2⟩

theorem bounds_run {P : Program} {isS : Bool} {len cap : Nat} {lo hi mx : Option Value} {K : Nat → Nat → Nat → Prop}
    (hh : mx.isSome = true → hi.isSome = true)
    (h : bdO mx cap cap fun m => bdO hi m len fun hh => bdO lo hh 0 fun l => K l hh m) :
    ∃ l hh m, (∀ w, (Instr.sliceBounds isS len cap lo hi mx).run P w = .ok (l, hh, m) w) ∧ K l hh m := by
  unfold Instr.sliceBounds
  cases mx with
  | none =>
    cases hi with
    | none =>
      cases lo with
      | none => exact ⟨_, _, _, fun w => by simp, h⟩
      | some v =>
        obtain ⟨k, i, rfl, hb, h⟩ := bdO_some (K := fun l => K l len cap) h
        exact ⟨_, _, _, fun w => by simp [bound_run hb], h⟩
    | some u =>
      obtain ⟨k, i, rfl, hb, h⟩ := bdO_some (K := fun hh => bdO lo hh 0 fun l => K l hh cap) h
      cases lo with
      | none => exact ⟨_, _, _, fun w => by simp [bound_run hb], h⟩
      | some v =>
        obtain ⟨k2, i2, rfl, hb2, h⟩ := bdO_some h
        exact ⟨_, _, _, fun w => by simp [bound_run hb, bound_run hb2], h⟩
  | some x =>
    obtain ⟨k0, i0, rfl, hb0, h⟩ := bdO_some h
    cases hi with
    | none => simp at hh
    | some u =>
      obtain ⟨k, i, rfl, hb, h⟩ := bdO_some h
      cases lo with
      | none => exact ⟨_, _, _, fun w => by simp [bound_run hb0, bound_run hb], h⟩
      | some v =>
        obtain ⟨k2, i2, rfl, hb2, h⟩ := bdO_some h
        exact ⟨_, _, _, fun w => by simp [bound_run hb0, bound_run hb, bound_run hb2], h⟩

theorem withSz_some {P : Program} {t : TypeId} {K : Nat → Prop} (h : withSz P t K) : ∃ i, P.info? t = some i ∧ K i.size := by
  unfold withSz at h
  split at h
  · exact ⟨_, by assumption, h⟩
  · exact h.elim

theorem nil_sound {P : Program} {o : Oper} {ρ : Operand → Value} {x : Operand} {K : Value → Prop} (ho : o.op = .nilCheck x) (h : ptNil (ρ x) K) : ∃ v, (∀ w, (execOp ρ o).run P w = .ok (.value v) w) ∧ K v := by
  unfold ptNil at h
  split at h
  · rename_i p hx
    cases p with
    | none => exact h.elim
    | some a => exact ⟨_, fun w => by simp [execOp, ho, hx], h⟩
  · rename_i f c d hx
    exact ⟨_, fun w => by simp [execOp, ho, hx], h⟩
  · rename_i t v hx
    exact ⟨_, fun w => by simp [execOp, ho, hx], h⟩
  · exact h.elim

theorem un_sound {P : Program} {op : UnOp} {x : Value} {K : Value → Prop} (h : ptUn op x K) : ∃ v, PV P (Op.unary op x) v ∧ K v := by
  unfold ptUn at h
  split at h <;> first
    | exact h.elim
    | exact ⟨_, fun w => by simp [Op.unary, Op.intArith, Op.intBits, xorV], h⟩

theorem convI_sound {P : Program} {src dst : TypeId} {x : Value} {K : Value → Prop} (h : ptConvI P src dst x K) : ∃ v, PV P (convert src dst x) v ∧ K v := by
  unfold ptConvI at h
  split at h
  · exact h.elim
  · rename_i d hs
    split at h <;> first
      | exact h.elim
      | (rename_i hd
         refine ⟨_, fun w => ?_, h⟩
         unfold convert
         rw [Sem.run_bind, run_underlying hs, Result.andThen_ok, Sem.run_bind, run_underlying hd, Result.andThen_ok]
         cases d <;> first | rfl | simp [Conv.intToInt])

theorem fieldAddr_sound {P : Program} {s : TypeId} {x : Value} {f : Nat} {K : Value → Prop} (h : ptFieldAddr P s x f K) : ∃ v, PV P (Instr.fieldAt s x f) v ∧ K v := by
  unfold ptFieldAddr at h
  split at h <;> first | exact h.elim | skip
  rename_i fs hu
  split at h <;> first | exact h.elim | skip
  rename_i fd hf
  split at h <;> first | exact h.elim | skip
  rename_i a
  obtain ⟨i, hi, h⟩ := withSz_some h
  split at h
  · exact h.elim
  · rename_i h0
    refine ⟨_, fun w => ?_, h⟩
    simp [Instr.fieldAt, run_underlying hu, hf, Instr.sureAddr, fieldPlace, run_sizeOf hi, h0]

theorem field_sound {P : Program} {t : TypeId} {x : Value} {f : Nat} {K : Value → Prop} (h : ptField P t x f K) : ∃ v, PV P (Instr.field t x f) v ∧ K v := by
  unfold ptField at h
  split at h <;> first | exact h.elim | skip
  rename_i fs hu
  split at h <;> first | exact h.elim | skip
  rename_i fd hf
  split at h <;> first | exact h.elim | skip
  rename_i cs
  obtain ⟨v, hv, hk⟩ := part_sound h
  refine ⟨v, fun w => ?_, hk⟩
  simp [Instr.field, run_underlying hu, hf, asAgg, hv w]

theorem indexAddr_sound {P : Program} {t : TypeId} {x ix : Value} {K : Value → Prop} (h : ptIndexAddr P t x ix K) : ∃ v, PV P (Instr.indexAt t x ix) v ∧ K v := by
  unfold ptIndexAddr at h
  split at h <;> first | exact h.elim | skip
  rename_i k i
  split at h <;> first | exact h.elim | skip
  · rename_i e base len c hu
    obtain ⟨ii, hi, h⟩ := withSz_some h
    unfold ixS nz at h
    split at h
    · rename_i a
      obtain ⟨hb, h⟩ := h
      refine ⟨_, fun w => ?_, h⟩
      simp [Instr.indexAt, asIntOf, run_underlying hu, hb, run_sizeOf hi]
    · exact h.elim
  · rename_i n e a hu
    obtain ⟨ii, hi, h⟩ := withSz_some h
    obtain ⟨hb, h⟩ := h
    refine ⟨_, fun w => ?_, h⟩
    simp [Instr.indexAt, asIntOf, run_underlying hu, hb, run_sizeOf hi, Instr.sureAddr]

theorem index_sound {P : Program} {t : TypeId} {x ix : Value} {K : Value → Prop} (h : ptIndex P t x ix K) : ∃ v, PV P (Instr.index t x ix) v ∧ K v := by
  unfold ptIndex at h
  split at h <;> first | exact h.elim | skip
  rename_i k i
  split at h <;> first | exact h.elim | skip
  · rename_i n e cs hu
    obtain ⟨ii, hi, hb, h⟩ := withSz_some h
    obtain ⟨v, hv, hk⟩ := part_sound h
    refine ⟨v, fun w => ?_, hk⟩
    simp [Instr.index, asIntOf, run_underlying hu, hb, run_sizeOf hi, hv w]
  · rename_i s hu
    obtain ⟨hb, h⟩ := h
    refine ⟨_, fun w => ?_, h⟩
    have hlt : i.toNat < s.size := by omega
    have e : s[i.toNat]? = some s[i.toNat] := by simp [hlt]
    have e2 : byteAt s i.toNat = ((s[i.toNat]).toNat : Int) := by
      unfold byteAt
      have : s.data.toList.getD i.toNat 0 = s[i.toNat] := by
        rw [List.getD_eq_getElem?_getD, Array.getElem?_toList, Array.getElem?_eq_getElem (by exact hlt)]
        rfl
      rw [this]
    simp [Instr.index, asIntOf, run_underlying hu, hb.1, e, e2]

theorem slice_sound {P : Program} {t : TypeId} {x : Value} {lo hi mx : Option Value} {K : Value → Prop} (hm : mx.isSome = true → hi.isSome = true) (h : ptSlice P t x lo hi mx K) : ∃ v, PV P (Instr.sliceAt t x lo hi mx) v ∧ K v := by
  unfold ptSlice at h
  split at h <;> first | exact h.elim | skip
  · rename_i e a len cap hu
    obtain ⟨ii, hi', h⟩ := withSz_some h
    obtain ⟨l, hh, m, hr, hk⟩ := bounds_run (P := P) (isS := true) (K := fun l h m => K (.slice (cutA a m l ii.size) (h - l) (m - l))) hm h
    refine ⟨_, fun w => ?_, hk⟩
    simp [Instr.sliceAt, run_underlying hu, Instr.slice, hr w, run_sizeOf hi', cutA]
  · rename_i n e a hu
    obtain ⟨ii, hi', h⟩ := withSz_some h
    obtain ⟨l, hh, m, hr, hk⟩ := bounds_run (P := P) (isS := false) (K := fun l h m => K (.slice (cutP a m l ii.size) (h - l) (m - l))) hm h
    refine ⟨_, fun w => ?_, hk⟩
    simp [Instr.sliceAt, run_underlying hu, Instr.sureAddr, hr w, run_sizeOf hi', cutP]
  · rename_i s hu
    split at h <;> first | exact h.elim | skip
    obtain ⟨l, hh, m, hr, hk⟩ := bounds_run (P := P) (isS := false) (mx := none) (lo := lo) (hi := hi) (len := s.size) (cap := s.size) (K := fun l h m => K (.string (s.extract l h))) (by simp) h
    refine ⟨_, fun w => ?_, hk⟩
    simp [Instr.sliceAt, run_underlying hu, Instr.slice, hr w]

theorem extract_sound {P : Program} {x : Value} {i : Nat} {K : Value → Prop} (h : ptExtract x i K) : ∃ v, PV P (Instr.extract x i) v ∧ K v := by
  unfold ptExtract at h
  split at h <;> first | exact h.elim | skip
  rename_i vs
  split at h <;> first | exact h.elim | skip
  rename_i v hv
  refine ⟨v, fun w => ?_, h⟩
  have : vs[i]? = some v := by rw [← Array.getElem?_toList]; exact hv
  simp [Instr.extract, this]

theorem mkI_sound {P : Program} {t : TypeId} {x : Value} {K : Value → Prop} (h : ptMkI P t x K) : ∃ v, PV P (Instr.makeInterface t x) v ∧ K v := by
  unfold ptMkI at h
  split at h <;> first | exact h.elim | skip
  rename_i d hd hu
  refine ⟨_, fun w => ?_, h⟩
  unfold Instr.makeInterface
  rw [Sem.run_bind, run_underlying hu, Result.andThen_ok]
  cases d <;> first | rfl | exact (hd _ rfl).elim

theorem arrPtr_sound {P : Program} {t : TypeId} {x : Value} {K : Value → Prop} (h : ptArrPtr P t x K) : ∃ v, PV P (Instr.arrayAt t x) v ∧ K v := by
  unfold ptArrPtr at h
  split at h <;> first | exact h.elim | skip
  rename_i n e a len c hu
  obtain ⟨hl, h⟩ := h
  unfold nz at h
  split at h <;> first | exact h.elim | skip
  refine ⟨_, fun w => ?_, h⟩
  have : ¬ len < n := by omega
  simp [Instr.arrayAt, run_underlying hu, this]

theorem assert_sound {P : Program} {x : Value} {xt t : TypeId} {ok : Bool} {K : Value → Prop} (h : ptAssert P x t ok K) : ∃ v, PV P (Instr.typeAssert x xt t ok) v ∧ K v := by
  unfold ptAssert at h
  split at h <;> first | exact h.elim | skip
  rename_i d t' v hd hu
  obtain ⟨ht, h⟩ := eqT_el h
  subst ht
  have h := asT_el h
  cases ok with
  | true =>
    refine ⟨_, fun w => ?_, h⟩
    unfold Instr.typeAssert
    rw [Sem.run_bind, run_underlying hu, Result.andThen_ok]
    cases d <;> first | exact (hd _ rfl).elim | simp
  | false =>
    refine ⟨_, fun w => ?_, h⟩
    unfold Instr.typeAssert
    rw [Sem.run_bind, run_underlying hu, Result.andThen_ok]
    cases d <;> first | exact (hd _ rfl).elim | simp

theorem len_sound {P : Program} {t : TypeId} {ts : List TypeId} {ty : TypeId} {x : Value} {K : Value → Prop} (h : ptLen P t x K) : ∃ v, PV P (Builtin.len_ ⟨t :: ts⟩ ty #[x]) v ∧ K v := by
  unfold ptLen at h
  split at h <;> first
    | exact h.elim
    | (rename_i hu
       refine ⟨_, fun w => ?_, h⟩
       simp [Builtin.len_, run_underlying hu, goInt])

theorem cap_sound {P : Program} {t : TypeId} {ts : List TypeId} {ty : TypeId} {x : Value} {K : Value → Prop} (h : ptCap P t x K) : ∃ v, PV P (Builtin.cap_ ⟨t :: ts⟩ ty #[x]) v ∧ K v := by
  unfold ptCap at h
  split at h <;> first
    | exact h.elim
    | (rename_i hu
       refine ⟨_, fun w => ?_, h⟩
       simp [Builtin.cap_, run_underlying hu, goInt])

/-- slices with a third bound have a second -/
def slOk (o : Oper) : Bool := match o.op with
  | .slice _ _ _ none (some _) => false
  | _ => true

theorem pureCall_sound {P : Program} {o : Oper} {ρ : Operand → Value} {c : Call} {K : Value → Prop} (ho : o.op = .call c) (h : ptPureCall P ρ c K) :
    ∃ v, (∀ w, (execOp ρ o).run P w = .ok (.value v) w) ∧ K v := by
  obtain ⟨callee, args, argTypes⟩ := c
  obtain ⟨args⟩ := args
  obtain ⟨argTypes⟩ := argTypes
  unfold ptPureCall at h
  simp only at h
  split at h <;> first | exact h.elim | skip
  · rename_i x
    split at h <;> first | exact h.elim | skip
    rename_i t ts
    obtain ⟨v, hv, hk⟩ := len_sound (ts := ts) (ty := o.type) h
    exact ⟨v, fun w => by simp [execOp, ho, resolve, invoke, builtin, hv w], hk⟩
  · rename_i x
    split at h <;> first | exact h.elim | skip
    rename_i t ts
    obtain ⟨v, hv, hk⟩ := cap_sound (ts := ts) (ty := o.type) h
    exact ⟨v, fun w => by simp [execOp, ho, resolve, invoke, builtin, hv w], hk⟩
  · rename_i l
    unfold ptMin at h
    split at h <;> first | exact h.elim | skip
    rename_i k x k' y hl
    refine ⟨_, fun w => ?_, h⟩
    have e : (List.map ρ args).toArray = #[Value.int k x, Value.int k' y] := by rw [← hl]
    simp [execOp, ho, resolve, invoke, builtin, e, Builtin.min_, Builtin.min2]
  · rename_i l
    unfold ptMax at h
    split at h <;> first | exact h.elim | skip
    rename_i k x k' y hl
    refine ⟨_, fun w => ?_, h⟩
    have e : (List.map ρ args).toArray = #[Value.int k x, Value.int k' y] := by rw [← hl]
    simp [execOp, ho, resolve, invoke, builtin, e, Builtin.max_, Builtin.max2]

/-- WHAT A PURE OPERATION COMES TO. -/
theorem ptP_sound {P : Program} {o : Oper} {ρ : Operand → Value} {K : Value → Prop} (hs : slOk o = true) (h : ptP P o ρ K) :
    ∃ v, (∀ w, (execOp ρ o).run P w = .ok (.value v) w) ∧ K v := by
  unfold ptP at h
  split at h <;> first | exact h.elim | skip
  · rename_i x ho; exact ⟨_, fun w => by simp [execOp, ho], h⟩
  · rename_i x ho; exact ⟨_, fun w => by simp [execOp, ho], h⟩
  · rename_i c a b ho
    unfold ptPickV at h
    split at h <;> first | exact h.elim | skip
    rename_i t ht
    cases t with
    | true => exact ⟨_, fun w => by simp [execOp, ho, ht, asBool], h⟩
    | false => exact ⟨_, fun w => by simp [execOp, ho, ht, asBool], h⟩
  · rename_i x ho; exact nil_sound ho h
  · rename_i op t x y yt ho
    obtain ⟨v, hv, hk⟩ := val_sound (bin_sound (ox := x) (oy := y) h)
    exact ⟨v, fun w => by rw [← hv w]; simp [execOp, ho], hk⟩
  · rename_i op t x ho
    obtain ⟨v, hv, hk⟩ := val_sound (un_sound (P := P) h)
    exact ⟨v, fun w => by rw [← hv w]; simp [execOp, ho], hk⟩
  · rename_i s d x ho
    obtain ⟨v, hv, hk⟩ := val_sound (convI_sound h)
    exact ⟨v, fun w => by rw [← hv w]; simp [execOp, ho], hk⟩
  · rename_i s x f ho
    obtain ⟨v, hv, hk⟩ := val_sound (fieldAddr_sound h)
    exact ⟨v, fun w => by rw [← hv w]; simp [execOp, ho], hk⟩
  · rename_i s x f ho
    obtain ⟨v, hv, hk⟩ := val_sound (field_sound h)
    exact ⟨v, fun w => by rw [← hv w]; simp [execOp, ho], hk⟩
  · rename_i s x f ho
    obtain ⟨v, hv, hk⟩ := val_sound (indexAddr_sound h)
    exact ⟨v, fun w => by rw [← hv w]; simp [execOp, ho], hk⟩
  · rename_i s x f ho
    obtain ⟨v, hv, hk⟩ := val_sound (index_sound h)
    exact ⟨v, fun w => by rw [← hv w]; simp [execOp, ho], hk⟩
  · rename_i t x lo hi mx ho
    obtain ⟨v, hv, hk⟩ := val_sound (slice_sound (by
      unfold slOk at hs
      rw [ho] at hs
      cases hi <;> cases mx <;> simp_all) h)
    exact ⟨v, fun w => by rw [← hv w]; simp [execOp, ho], hk⟩
  · rename_i x i ho
    obtain ⟨v, hv, hk⟩ := val_sound (extract_sound (P := P) h)
    exact ⟨v, fun w => by rw [← hv w]; simp [execOp, ho], hk⟩
  · rename_i t x ho
    obtain ⟨v, hv, hk⟩ := val_sound (mkI_sound h)
    exact ⟨v, fun w => by rw [← hv w]; simp [execOp, ho], hk⟩
  · rename_i fn first captured ho
    obtain ⟨first⟩ := first
    obtain ⟨captured⟩ := captured
    exact ⟨_, fun w => by simp [execOp, ho, Instr.makeFunc], h⟩
  · rename_i t x ho
    obtain ⟨v, hv, hk⟩ := val_sound (arrPtr_sound h)
    exact ⟨v, fun w => by rw [← hv w]; simp [execOp, ho], hk⟩
  · rename_i x xt t ok ho
    obtain ⟨v, hv, hk⟩ := val_sound (assert_sound (xt := xt) h)
    exact ⟨v, fun w => by rw [← hv w]; simp [execOp, ho], hk⟩
  · rename_i c ho
    exact pureCall_sound ho h

theorem ptP_ok {P : Program} {o : Oper} {ρ : Operand → Value} {w : World} {K : Value → World → Prop} (hs : slOk o = true) (h : ptP P o ρ fun v => K v w) : opOk P o ρ w K := by
  obtain ⟨v, hv, hk⟩ := ptP_sound hs h
  unfold opOk
  rw [hv w]
  exact hk

end Go.Proofs.Ythdmmmfgjmmelaa
