/- Drawn regions by the kernel; code; the frame of a call. Own work. -/
import Derived.Test.YthdmmmfgjmmelaaVcG
namespace Go.Proofs.Ythdmmmfgjmmelaa
open Go
set_option linter.unusedSimpArgs false
set_option linter.unusedVariables false

/-! ### 1. What goes ahead of what -/

def maskE (acc : List Nat) (l : List Edge) : Nat := match l with
  | [] => 0
  | e :: r => if Region.binds .any e then 2 ^ e.on ||| (acc.getD e.on 0 ||| maskE acc r) else maskE acc r

def befs : List Oper → List Nat → List Nat
  | [], acc => acc
  | o :: r, acc => befs r (acc ++ [maskE acc o.after.toList])

theorem maskE_spec (acc : List Nat) (i : Nat) : ∀ l, (maskE acc l).testBit i = true → ∃ e ∈ l, Region.binds .any e = true ∧ (e.on = i ∨ (acc.getD e.on 0).testBit i = true)
  | [], h => by simp [maskE] at h
  | e :: r, h => by
    unfold maskE at h
    split at h
    · rename_i hb
      rw [Nat.testBit_or, Nat.testBit_or, Bool.or_eq_true, Bool.or_eq_true] at h
      rcases h with h | h | h
      · refine ⟨e, by simp, hb, Or.inl ?_⟩
        rw [Nat.testBit_two_pow] at h
        simpa using h
      · exact ⟨e, by simp, hb, Or.inr h⟩
      · obtain ⟨e', he, h'⟩ := maskE_spec acc i r h
        exact ⟨e', by simp [he], h'⟩
    · obtain ⟨e', he, h'⟩ := maskE_spec acc i r h
      exact ⟨e', by simp [he], h'⟩

theorem befs_prefix : ∀ (l : List Oper) (acc : List Nat), ∃ t, befs l acc = acc ++ t
  | [], acc => ⟨[], by simp [befs]⟩
  | o :: r, acc => by
    obtain ⟨t, ht⟩ := befs_prefix r (acc ++ [maskE acc o.after.toList])
    exact ⟨maskE acc o.after.toList :: t, by rw [befs, ht]; simp⟩

theorem befs_get : ∀ (l : List Oper) (acc : List Nat) (j : Nat) (o : Oper), l[j]? = some o → ∃ acc', (befs l acc)[acc.length + j]? = some (maskE acc' o.after.toList) ∧ acc'.length = acc.length + j ∧ ∃ t, befs l acc = acc' ++ t
  | [], acc, j, o, h => by simp at h
  | o :: r, acc, 0, o', h => by
    simp at h
    subst h
    obtain ⟨t, ht⟩ := befs_prefix r (acc ++ [maskE acc o.after.toList])
    refine ⟨acc, ?_, by simp, maskE acc o.after.toList :: t, ?_⟩
    · rw [befs, ht]; simp
    · rw [befs, ht]; simp
  | o :: r, acc, j + 1, o', h => by
    simp at h
    obtain ⟨acc', h1, h2, t, h3⟩ := befs_get r (acc ++ [maskE acc o.after.toList]) j o' h
    refine ⟨acc', ?_, ?_, t, ?_⟩
    · rw [befs, ← h1]; congr 1; simp; omega
    · rw [h2]; simp; omega
    · rw [befs, h3]

def preO (bs : List Nat) (i j : Nat) : Bool := (bs.getD j 0).testBit i

/-! ### 2. The static look -/

def isLoadK (o : Oper) : Bool := match o.op with
  | .load .. => true
  | _ => false

/-- the kinds that change nothing that is there -/
def mildO (P : Program) (o : Oper) : Bool := pureO P o || isLoadK o || isAllocK o

def looksB (ops : Array Oper) (o : Oper) (d : Nat) : Bool := (o.looksAt ops).contains d

def lzB (P : Program) (ops : Array Oper) (bs : List Nat) (i : Nat) : Bool :=
  match ops[i]? with
  | none => false
  | some o =>
    (pureO P o || isLoadK o) &&
    (match o.dst with
      | none => true
      | some d => (List.range ops.size).all fun j => match ops[j]? with
        | none => true
        | some oj => !looksB ops oj d || (!Nat.beq i j && preO bs i j)) &&
    (!isLoadK o || (List.range ops.size).all fun j => match ops[j]? with
        | none => true
        | some oj => mildO P oj || preO bs i j || preO bs j i)

def lzs (P : Program) (ops : Array Oper) (bs : List Nat) : List Bool := (List.range ops.size).map (lzB P ops bs)

def statB (P : Program) (ops : Array Oper) (bs : List Nat) : Bool :=
  (List.range ops.size).all fun j => match ops[j]? with
    | none => false
    | some oj =>
      (oj.after.toList.all fun e => !Region.binds .any e || Nat.blt e.on j) &&
      (match oj.op with
        | .select .. => false
        | _ => true) &&
      ((List.range ops.size).all fun i => match ops[i]? with
        | none => true
        | some oi => Nat.beq i j || (match oi.dst with
          | none => true
          | some d => (match oj.dst with
              | some d' => !Nat.beq d d'
              | none => true) && (!looksB ops oj d || preO bs i j || (!lzB P ops bs i && preO bs j i))))

def lzF (P : Program) (ops : Array Oper) (i : Nat) : Bool := lzB P ops (befs ops.toList []) i
def rdF (ops : Array Oper) (i : Nat) : Bool := match ops[i]? with
  | some o => isLoadK o
  | none => false
def alF (P : Program) (ops : Array Oper) (i : Nat) : Bool := match ops[i]? with
  | some o => mildO P o
  | none => false

theorem stat_of {P : Program} {ops : Array Oper} (h : statB P ops (befs ops.toList []) = true) : Stat ops (preO (befs ops.toList [])) (lzF P ops) (rdF ops) (alF P ops) := by
  have all : ∀ j oj, ops[j]? = some oj → _ := fun j oj hj => by
    have h1 := List.all_eq_true.1 h j (List.mem_range.2 (Array.getElem?_eq_some_iff.1 hj).1)
    simp only [hj] at h1
    exact h1
  have back : ∀ (j : Nat) (oj : Oper), ops[j]? = some oj → ∀ e ∈ oj.after, Region.binds .any e = true → e.on < j := by
    intro j oj hj e he hb
    have h1 := all j oj hj
    simp only [Bool.and_eq_true] at h1
    have h2 := List.all_eq_true.1 h1.1.1 e (by simpa using he)
    rw [hb] at h2
    simpa [Nat.blt_eq] using h2
  have pair : ∀ (i j : Nat) (oi oj : Oper) (d : Nat), ops[i]? = some oi → ops[j]? = some oj → i ≠ j → oi.dst = some d → oj.dst ≠ some d ∧ (d ∈ oj.looksAt ops → preO (befs ops.toList []) i j = true ∨ (lzF P ops i = false ∧ preO (befs ops.toList []) j i = true)) := by
    intro i j oi oj d hi hj hne hd
    have h1 := all j oj hj
    simp only [Bool.and_eq_true] at h1
    have h2 := List.all_eq_true.1 h1.2 i (List.mem_range.2 (Array.getElem?_eq_some_iff.1 hi).1)
    simp only [hi, hd, Bool.or_eq_true, Bool.and_eq_true] at h2
    have h2 := h2.resolve_left (fun h => hne (Nat.eq_of_beq_eq_true h))
    refine ⟨fun h => ?_, fun hm => ?_⟩
    · have := h2.1
      simp [h] at this
    · have h3 := h2.2
      have hc : looksB ops oj d = true := by simpa [looksB] using hm
      simp only [hc, Bool.not_true, Bool.false_eq_true, false_or] at h3
      rcases h3 with h3 | h3
      · exact Or.inl h3
      · exact Or.inr ⟨by simpa [lzF] using h3.1, h3.2⟩
  have lzspec : ∀ (i : Nat) (o : Oper), ops[i]? = some o → lzF P ops i = true →
      (∀ d, o.dst = some d → d ∉ o.looksAt ops) ∧ (isLoadK o = true → ∀ (j : Nat) (oj : Oper), ops[j]? = some oj → mildO P oj = true ∨ preO (befs ops.toList []) i j = true ∨ preO (befs ops.toList []) j i = true) := by
    intro i o hi hl
    unfold lzF lzB at hl
    simp only [hi, Bool.and_eq_true] at hl
    refine ⟨fun d hd hm => ?_, fun hr j oj hj => ?_⟩
    · have h2 := hl.1.2
      rw [hd] at h2
      have h3 := List.all_eq_true.1 h2 i (List.mem_range.2 (Array.getElem?_eq_some_iff.1 hi).1)
      simp only [hi] at h3
      have hc : looksB ops o d = true := by simpa [looksB] using hm
      simp [hc] at h3
    · have h2 := hl.2
      rw [hr] at h2
      simp only [Bool.not_true, Bool.false_or] at h2
      have h3 := List.all_eq_true.1 h2 j (List.mem_range.2 (Array.getElem?_eq_some_iff.1 hj).1)
      simp only [hj, Bool.or_eq_true] at h3
      rcases h3 with (h3 | h3) | h3
      · exact Or.inl h3
      · exact Or.inr (Or.inl h3)
      · exact Or.inr (Or.inr h3)
  refine ⟨back, ?_, ?_, fun i j oi oj d hi hj hne hd => (pair i j oi oj d hi hj hne hd).1, fun i j oi oj d hi hj hne hd hm => (pair i j oi oj d hi hj hne hd).2 hm, fun i oi d hi hd hl => (lzspec i oi hi hl).1 d hd, ?_⟩
  · intro i j oj hj hp
    unfold preO at hp
    have hjl : ops.toList[j]? = some oj := by rw [Array.getElem?_toList]; exact hj
    obtain ⟨acc', h1, h2, t, h3⟩ := befs_get ops.toList [] j oj hjl
    simp only [List.length_nil, Nat.zero_add] at h1 h2
    rw [List.getD_eq_getElem?_getD, h1, Option.getD_some] at hp
    obtain ⟨e, he, hb, h4⟩ := maskE_spec acc' i _ hp
    have hlt := back j oj hj e (by simpa using he) hb
    refine ⟨e, by simpa using he, hb, hlt, ?_⟩
    rcases h4 with h4 | h4
    · exact Or.inl h4
    · refine Or.inr ?_
      unfold preO
      rw [h3, List.getD_eq_getElem?_getD, List.getElem?_append_left (by omega), ← List.getD_eq_getElem?_getD]
      exact h4
  · intro j o cs b hj heq
    have h1 := all j o hj
    simp [heq] at h1
  · intro m i hm hi hr hl hz ha
    obtain ⟨om, hom⟩ := ops_some m hm
    obtain ⟨oi, hoi⟩ := ops_some i hi
    have hr' : isLoadK om = true := by simpa [rdF, hom] using hr
    rcases (lzspec m om hom hl).2 hr' i oi hoi with h | h | h
    · simp [alF, hoi, h] at ha
    · exact Or.inl h
    · exact Or.inr h

/-! ### 3. The tree -/

def depsL (o : Oper) : List Nat := (o.after.toList.filter fun e => Region.binds .any e).map (·.on)

def rdyL (ds : List (List Nat)) (i m : Nat) : List Nat :=
  match ds with
  | [] => []
  | d :: r => if !m.testBit i && d.all (fun j => m.testBit j) then i :: rdyL r (i + 1) m else rdyL r (i + 1) m

def bitsA (n m : Nat) : Array Bool := ((List.range n).map fun i => m.testBit i).toArray

theorem bitsA_size (n m : Nat) : (bitsA n m).size = n := by simp [bitsA]
theorem bitsA_getD {n m i : Nat} (h : i < n) (d : Bool) : (bitsA n m).getD i d = m.testBit i := by
  simp [bitsA, h]
theorem bitsA_set {n m i : Nat} (h : i < n) : (bitsA n m).setIfInBounds i true = bitsA n (m ||| 2 ^ i) := by
  apply Array.ext
  · simp [bitsA]
  · intro j h1 h2
    simp only [bitsA, Array.size_setIfInBounds, List.size_toArray, List.length_map, List.length_range] at h1
    have e1 : (bitsA n (m ||| 2 ^ i))[j] = (m.testBit j || decide (i = j)) := by
      simp only [bitsA, List.getElem_toArray, List.getElem_map, List.getElem_range, Nat.testBit_or, Nat.testBit_two_pow]
    rw [e1]
    by_cases hij : i = j
    · subst hij; simp
    · rw [Array.getElem_setIfInBounds_ne (h := hij) (hj := by simpa [bitsA] using h1)]
      simp [bitsA, hij]

theorem rdyL_mem (ds : List (List Nat)) (m : Nat) : ∀ (k i : Nat), i ∈ rdyL ds k m ↔ k ≤ i ∧ m.testBit i = false ∧ ∃ d, ds[i - k]? = some d ∧ ∀ j ∈ d, m.testBit j = true := by
  induction ds with
  | nil => intro k i; simp [rdyL]
  | cons d r ih =>
    intro k i
    unfold rdyL
    have step : i ∈ rdyL r (k + 1) m ↔ k + 1 ≤ i ∧ m.testBit i = false ∧ ∃ d', (d :: r)[i - k]? = some d' ∧ ∀ j ∈ d', m.testBit j = true := by
      rw [ih (k + 1) i]
      constructor
      · rintro ⟨h1, h2, d', h3, h4⟩
        refine ⟨h1, h2, d', ?_, h4⟩
        rw [show i - k = (i - (k + 1)) + 1 by omega]; exact h3
      · rintro ⟨h1, h2, d', h3, h4⟩
        refine ⟨h1, h2, d', ?_, h4⟩
        rw [show i - k = (i - (k + 1)) + 1 by omega] at h3; exact h3
    split
    · rename_i hc
      simp only [Bool.and_eq_true, Bool.not_eq_true', List.all_eq_true] at hc
      rw [List.mem_cons, step]
      constructor
      · rintro (rfl | ⟨h1, h2⟩)
        · exact ⟨Nat.le_refl _, hc.1, d, by simp, hc.2⟩
        · exact ⟨by omega, h2⟩
      · rintro ⟨h1, h2, d', h3, h4⟩
        by_cases hik : i = k
        · exact Or.inl hik
        · exact Or.inr ⟨by omega, h2, d', h3, h4⟩
    · rename_i hc
      rw [step]
      constructor
      · rintro ⟨h1, h2⟩; exact ⟨by omega, h2⟩
      · rintro ⟨h1, h2, d', h3, h4⟩
        by_cases hik : i = k
        · exfalso
          subst hik
          simp at h3
          subst h3
          apply hc
          simp only [Bool.and_eq_true, Bool.not_eq_true', List.all_eq_true]
          exact ⟨h2, h4⟩
        · exact ⟨by omega, h2, d', h3, h4⟩

theorem ready_bits {ops : Array Oper} (hb : ∀ (j : Nat) (oj : Oper), ops[j]? = some oj → ∀ e ∈ oj.after, Region.binds .any e = true → e.on < j) (m i : Nat) :
    i ∈ Region.ready .any ops (bitsA ops.size m) ↔ i ∈ rdyL (ops.toList.map depsL) 0 m := by
  rw [mem_ready, rdyL_mem]
  simp only [Nat.zero_le, true_and, Nat.sub_zero, List.getElem?_map, Array.getElem?_toList]
  constructor
  · rintro ⟨h1, o, ho, h2⟩
    have hi := (Array.getElem?_eq_some_iff.1 ho).1
    refine ⟨by rw [bitsA_getD hi] at h1; exact h1, depsL o, by rw [ho]; rfl, fun j hj => ?_⟩
    unfold depsL at hj
    rw [List.mem_map] at hj
    obtain ⟨e, he, rfl⟩ := hj
    rw [List.mem_filter] at he
    have he1 : e ∈ o.after := by simpa using he.1
    have := h2 e he1 he.2
    rwa [bitsA_getD (by have := hb i o ho e he1 he.2; omega)] at this
  · rintro ⟨h1, d, hd, h2⟩
    cases ho : ops[i]? with
    | none => rw [ho] at hd; cases hd
    | some o =>
      rw [ho] at hd
      simp at hd
      have hi := (Array.getElem?_eq_some_iff.1 ho).1
      refine ⟨by rw [bitsA_getD hi]; exact h1, o, rfl, fun e he hbe => ?_⟩
      have hlt := hb i o ho e he hbe
      rw [bitsA_getD (by omega)]
      refine h2 e.on ?_
      rw [← hd]
      unfold depsL
      rw [List.mem_map]
      exact ⟨e, by rw [List.mem_filter]; exact ⟨by simpa using he, hbe⟩, rfl⟩

def lazyOp (P : Program) (o : Oper) (ρ : Operand → Value) (w : World) (K : Value → Prop) : Prop :=
  match pureO P o with
  | true => ptPO P o ρ K
  | false => match o.op with
    | .load t a => ptLoad P t (ρ a) w K
    | _ => False

def firstLz (lz : List Bool) : List Nat → Option Nat
  | [] => none
  | i :: r => match lz.getD i false with
    | true => some i
    | false => firstLz lz r

def allOf (X : Nat → Prop) : List Nat → Prop
  | [] => True
  | [i] => X i
  | i :: r => X i ∧ allOf X r

theorem allOf_mem {X : Nat → Prop} : ∀ {l : List Nat}, allOf X l → ∀ i ∈ l, X i
  | [], _, i, h => by cases h
  | [j], h, i, hi => by have : i = j := by simpa using hi
                        subst this; exact h
  | j :: k :: r, h, i, hi => by
    rcases List.mem_cons.1 hi with rfl | hi
    · exact h.1
    · exact allOf_mem h.2 i hi

def ptTree (P : Program) (ops : Array Oper) (ds : List (List Nat)) (lz : List Bool) (K : (Nat → Value) → World → Prop) : Nat → Nat → (Nat → Value) → World → Prop
  | 0, m, ρ, w => match rdyL ds 0 m with
    | [] => K ρ w
    | _ => False
  | f + 1, m, ρ, w =>
    match firstLz lz (rdyL ds 0 m) with
    | some i => match ops[i]? with
      | none => False
      | some o => guardK ops o ρ (fun ρ' => lazyOp P o (ev ρ') w fun v => ptTree P ops ds lz K f (m ||| 2 ^ i) (putR ρ' o.dst v) w) (fun ρ' => ptTree P ops ds lz K f (m ||| 2 ^ i) (putR ρ' o.dst undef) w)
    | none => match rdyL ds 0 m with
      | [] => K ρ w
      | l => allOf (fun i => match ops[i]? with
        | none => False
        | some o => guardK ops o ρ (fun ρ' => ptOp P o (ev ρ') w fun v w' => ptTree P ops ds lz K f (m ||| 2 ^ i) (putR ρ' o.dst v) w') (fun ρ' => ptTree P ops ds lz K f (m ||| 2 ^ i) (putR ρ' o.dst undef) w)) l

theorem firstLz_some {lz : List Bool} : ∀ {l : List Nat} {i : Nat}, firstLz lz l = some i → i ∈ l ∧ lz.getD i false = true
  | [], i, h => by cases h
  | j :: r, i, h => by
    unfold firstLz at h
    split at h
    · rename_i hj; cases h; exact ⟨by simp, hj⟩
    · have := firstLz_some h; exact ⟨by simp [this.1], this.2⟩

theorem firstLz_none {lz : List Bool} : ∀ {l : List Nat}, firstLz lz l = none → ∀ i ∈ l, lz.getD i false = false
  | [], _, i, h => by cases h
  | j :: r, h, i, hi => by
    unfold firstLz at h
    split at h
    · cases h
    · rename_i hj
      rcases List.mem_cons.1 hi with rfl | hi
      · exact hj
      · exact firstLz_none h i hi

theorem lz_get {P : Program} {ops : Array Oper} {i : Nat} (hi : i < ops.size) : (lzs P ops (befs ops.toList [])).getD i false = lzF P ops i := by
  simp [lzs, hi, lzF]

theorem lazyOp_sound {P : Program} {ops : Array Oper} {o : Oper} {N : Nat} {a : Act} {ρ : Nat → Value} {w : World} {K : Value → Prop} {i : Nat} (ho : ops[i]? = some o) (hs : slOk o = true) (hr : rel N a ρ)
    (hw : Region.wanted o (yielded ops a.tmps) = true) (h : lazyOp P o (ev ρ) w K) : ∃ v, gives P ops (rdF ops i) o a w v ∧ K v := by
  unfold lazyOp at h
  split at h
  · obtain ⟨v, hv, hk⟩ := ptPO_sound hs h
    exact ⟨v, Or.inl ⟨hw, fun w' _ => by rw [rel_eval hr]; exact hv w'⟩, hk⟩
  · split at h <;> first | exact h.elim | skip
    rename_i t x hop
    obtain ⟨v, hv, hk⟩ := load_sound h
    refine ⟨v, Or.inl ⟨hw, fun w' he => ?_⟩, hk⟩
    rw [rel_eval hr]
    have := hv w' (he (by simp [rdF, ho, isLoadK, hop]))
    simp [execOp, hop, this]

theorem tree_of_pt {P : Program} {N : Nat} {ops : Array Oper} (hf : fitB N ops = true) (St : Stat ops (preO (befs ops.toList [])) (lzF P ops) (rdF ops) (alF P ops)) {K : (Nat → Value) → World → Prop} :
    ∀ (f m : Nat) {a : Act} {ρ : Nat → Value} {w : World}, rel N a ρ → ptTree P ops (ops.toList.map depsL) (lzs P ops (befs ops.toList [])) K f m ρ w →
      tree P ops (lzF P ops) (rdF ops) (alF P ops) (fun a' w' => ∃ ρ', rel N a' ρ' ∧ K ρ' w') f (bitsA ops.size m) a w := by
  intro f
  induction f with
  | zero =>
    intro m a ρ w hr h
    unfold ptTree at h
    split at h
    · rename_i hn
      refine ⟨?_, ρ, hr, h⟩
      cases hrr : Region.ready .any ops (bitsA ops.size m) with
      | nil => rfl
      | cons i r =>
        have : i ∈ Region.ready .any ops (bitsA ops.size m) := by rw [hrr]; simp
        rw [ready_bits St.back, hn] at this
        cases this
    · exact h.elim
  | succ f ih =>
    intro m a ρ w hr h
    unfold ptTree at h
    split at h
    · rename_i i hfi
      obtain ⟨hm, hl⟩ := firstLz_some hfi
      have hready := (ready_bits St.back m i).2 hm
      split at h
      · exact h.elim
      · rename_i o ho
        have hi := (Array.getElem?_eq_some_iff.1 ho).1
        rw [lz_get hi] at hl
        obtain ⟨hs, hd⟩ := fitB_spec hf ho
        refine Or.inl ?_
        rcases guardK_sound hr h with ⟨hw, h⟩ | ⟨hw, h⟩
        · obtain ⟨v, hg, hk⟩ := lazyOp_sound ho hs hr hw h
          refine ⟨i, o, v, hready, hl, ho, hg, ?_⟩
          rw [bitsA_set hi]
          exact ih _ (rel_put hr hd v) hk
        · refine ⟨i, o, undef, hready, hl, ho, Or.inr ⟨hw, rfl⟩, ?_⟩
          rw [bitsA_set hi]
          exact ih _ (rel_put hr hd _) h
    · rename_i hfn
      have hnone := firstLz_none hfn
      refine Or.inr ⟨fun i hi => ?_, fun hnil => ?_, fun i hi => ?_⟩
      · have hm := (ready_bits St.back m i).1 hi
        have hlt : i < ops.size := by
          obtain ⟨_, o, ho, _⟩ := mem_ready.1 hi
          exact (Array.getElem?_eq_some_iff.1 ho).1
        rw [← lz_get (P := P) hlt]
        exact hnone i hm
      · split at h
        · exact ⟨ρ, hr, h⟩
        · rename_i hne
          exfalso
          cases hrl : rdyL (ops.toList.map depsL) 0 m with
          | nil => exact hne hrl
          | cons i r =>
            have : i ∈ Region.ready .any ops (bitsA ops.size m) := (ready_bits St.back m i).2 (by rw [hrl]; simp)
            rw [hnil] at this
            cases this
      · have hm := (ready_bits St.back m i).1 hi
        split at h
        · rename_i hnil; rw [hnil] at hm; cases hm
        · have hx := allOf_mem h i hm
          split at hx
          · exact hx.elim
          · rename_i o ho
            have hi' := (Array.getElem?_eq_some_iff.1 ho).1
            obtain ⟨hs, hd⟩ := fitB_spec hf ho
            rw [bitsA_set hi']
            unfold stepOk
            simp only [ho]
            rcases guardK_sound hr hx with ⟨hw, hx⟩ | ⟨hw, hx⟩
            · simp only [hw, if_true]
              rw [rel_eval hr]
              unfold ptOp at hx
              split at hx
              · rename_i hp
                obtain ⟨v, hv, hk⟩ := ptPO_sound hs hx
                exact opOk_val (hv w) ⟨fun _ => extA_refl w, ih _ (rel_put hr hd v) hk⟩
              · rename_i hp
                by_cases hload : isLoadK o = true
                · unfold ptH at hx
                  cases hop : o.op <;> simp only [hop] at hx <;> first | (simp [isLoadK, hop] at hload; done) | skip
                  rename_i t x
                  obtain ⟨v, hv, hk⟩ := load_sound hx
                  exact opOk_val (w' := w) (v := v) (by simp [execOp, hop, hv w (extA_refl w)]) ⟨fun _ => extA_refl w, ih _ (rel_put hr hd v) hk⟩
                · refine opOk_mono (ptH_sound hx) fun v w' hk => ⟨fun ha => hk.1 ?_, ih _ (rel_put hr hd v) hk.2⟩
                  have : mildO P o = true := by simpa [alF, ho] using ha
                  simp only [mildO, hp, Bool.false_or, Bool.or_eq_true] at this
                  exact this.resolve_left hload
            · simp only [hw]
              exact ⟨fun _ => extA_refl w, ih _ (rel_put hr hd _) hx⟩

end Go.Proofs.Ythdmmmfgjmmelaa
