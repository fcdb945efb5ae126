/- Operations that read or make memory. Own work. -/
import Derived.Test.YthdmmmfgjmmelaaVcD
namespace Go.Proofs.Ythdmmmfgjmmelaa
open Go
set_option linter.unusedSimpArgs false
set_option linter.unusedVariables false

/-! ### loads -/

def ldI (k : IntKind) (w : World) (a : Addr) (K : Int → Prop) : Prop := ∃ n, w.cell? a = some (.int k n) ∧ K n
def ldB (w : World) (a : Addr) (K : Bool → Prop) : Prop := ∃ n, w.cell? a = some (.bool n) ∧ K n
def ldS (w : World) (a : Addr) (K : ByteArray → Prop) : Prop := ∃ n, w.cell? a = some (.string n) ∧ K n
def ldP (w : World) (a : Addr) (K : Option Addr → Prop) : Prop := ∃ n, w.cell? a = some (.pointer n) ∧ K n
def ldL (w : World) (a : Addr) (K : Sl → Prop) : Prop := ∃ n : Sl, w.cell? a = some (.slice n.a n.len n.cap) ∧ K n
def ldM (w : World) (a : Addr) (K : Option Nat → Prop) : Prop := ∃ n, w.cell? a = some (.map n) ∧ K n
def ldF (w : World) (a : Addr) (K : Nat × Value → Prop) : Prop := ∃ n : Nat × Value, w.cell? a = some (.iface n.1 n.2) ∧ K n
def ldV (w : World) (a : Addr) (K : Value → Prop) : Prop := ∃ n, w.cell? a = some n ∧ K n
/-- n cells from a on -/
def ldA (w : World) (a : Addr) (n : Nat) (K : Array Value → Prop) : Prop := ∃ cs : Array Value, cs.size = n ∧ (∀ i, i < n → w.cell? (a.add i) = cs[i]?) ∧ K cs

def ptLoad (P : Program) (t : TypeId) (x : Value) (w : World) (K : Value → Prop) : Prop :=
  match x with
  | .pointer (some a) =>
    match P.underlying t with
    | some (.int k) => ldI k w a fun n => K (.int k n)
    | some .bool => ldB w a fun n => K (.bool n)
    | some .string => ldS w a fun n => K (.string n)
    | some (.pointer _) => ldP w a fun n => K (.pointer n)
    | some (.slice _) => ldL w a fun n => K (.slice n.a n.len n.cap)
    | some (.map _ _) => ldM w a fun n => K (.map n)
    | some (.struct _) => withSz P t fun sz => ldA w a sz fun cs => K (.agg cs)
    | some (.array _ _) => withSz P t fun sz => ldA w a sz fun cs => K (.agg cs)
    | some (.func _ _ _) => ldV w a K
    | some (.interface _) => ldF w a fun n => K (.iface n.1 n.2)
    | _ => False
  | _ => False

theorem cell_ext {w w' : World} (h : extA w w') {a : Addr} {v : Value} (hc : w.cell? a = some v) : w'.cell? a = some v := by
  have hb := World.block_lt_of_cell? w a hc
  unfold World.cell? at *
  rw [h a.block hb]
  exact hc

theorem loadFrom_run {P : Program} {w : World} {a : Addr} {cs : Array Value} : ∀ (n i : Nat) (acc : Array Value), i + n = cs.size → acc = cs.extract 0 i → (∀ j, j < cs.size → w.cell? (a.add j) = cs[j]?) →
    (loadCellsFrom a i n acc).run P w = .ok cs w := by
  intro n
  induction n with
  | zero =>
    intro i acc hi hacc _
    have : acc = cs := by rw [hacc, show i = cs.size by omega]; simp
    simp [loadCellsFrom, this]
  | succ n ih =>
    intro i acc hi hacc hc
    have hlt : i < cs.size := by omega
    have h1 := hc i hlt
    rw [Array.getElem?_eq_getElem hlt] at h1
    unfold loadCellsFrom
    simp only [Sem.run_bind, run_load, h1, Result.andThen_ok]
    refine ih (i + 1) _ (by omega) ?_ hc
    rw [hacc]
    apply Array.ext
    · simp <;> omega
    · intro j hj1 hj2
      simp at hj1 hj2
      by_cases hji : j = i
      · subst hji; simp [Array.getElem_push]
      · have h2 : j < i := by omega
        have h3 : j < min i cs.size := by omega
        simp [Array.getElem_push, h3]

theorem loadCells_run {P : Program} {w : World} {a : Addr} {n : Nat} {cs : Array Value} (hs : cs.size = n) (hc : ∀ j, j < n → w.cell? (a.add j) = cs[j]?) : (loadCells a n).run P w = .ok cs w := by
  unfold loadCells
  exact loadFrom_run n 0 #[] (by omega) (by simp) (by rw [hs]; exact hc)

theorem load_sound {P : Program} {t : TypeId} {x : Value} {w : World} {K : Value → Prop} (h : ptLoad P t x w K) : ∃ v, (∀ w', extA w w' → (Instr.loadAt t x).run P w' = .ok v w') ∧ K v := by
  unfold ptLoad at h
  split at h <;> first | exact h.elim | skip
  rename_i a
  split at h <;> first
    | exact h.elim
    | (rename_i hu
       obtain ⟨n, hc, hk⟩ := h
       refine ⟨_, fun w' he => ?_, hk⟩
       simp [Instr.loadAt, Instr.sureAddr, loadVar, run_isAgg hu, cell_ext he hc]
       done)
    | (rename_i hu
       obtain ⟨i, hi, cs, hs, hc, hk⟩ := withSz_some h
       refine ⟨_, fun w' he => ?_, hk⟩
       have hr : (loadCells a i.size).run P w' = .ok cs w' := loadCells_run hs fun j hj => by
         have h1 := hc j hj
         rw [Array.getElem?_eq_getElem (by omega)] at h1 ⊢
         exact cell_ext he h1
       simp [Instr.loadAt, Instr.sureAddr, loadVar, run_isAgg hu, run_sizeOf hi, hr])

/-! ### stores -/

def st (w : World) (a : Addr) (v : Value) (K : World → Prop) : Prop := storable v ∧ (∃ u, w.cell? a = some u) ∧ w.frozen? a = false ∧ K (w.setCell a v)

def putAll (w : World) (a : Addr) : List Value → Nat → World
  | [], _ => w
  | v :: r, i => putAll (w.setCell (a.add i) v) a r (i + 1)

/-- a row of cells is written -/
def stA (w : World) (a : Addr) (cs : Array Value) (K : World → Prop) : Prop :=
  (∀ i, i < cs.size → (∃ u, w.cell? (a.add i) = some u) ∧ w.frozen? (a.add i) = false) ∧ (∀ v ∈ cs, storable v) ∧ K (putAll w a cs.toList 0)

def isAggT (P : Program) (t : TypeId) : Bool := match P.underlying t with
  | some (.struct _) => true
  | some (.array _ _) => true
  | _ => false

def ptStore (P : Program) (t : TypeId) (x v : Value) (w : World) (K : World → Prop) : Prop :=
  match x with
  | .pointer (some a) =>
    if isAggT P t then
      match v with
      | .agg cs => withSz P t fun sz => cs.size = sz ∧ stA w a cs K
      | _ => False
    else withSz P t fun sz => if sz = 1 then st w a v K else False
  | _ => False

theorem cells_storable {v : Value} (h : storable v) : v.cells = #[v] := by
  cases v <;> first | exact h.elim | rfl

theorem store_run {P : Program} {w : World} {a : Addr} {v : Value} (hs : storable v) {u : Value} (hu : w.cell? a = some u) (hf : w.frozen? a = false) : (store a v).run P w = .ok () (w.setCell a v) := by
  have : v.oneCell' = true := by cases v <;> first | exact hs.elim | rfl
  rw [run_store P w a v .plain this, hu]
  simp [hf]

theorem cell_some_setCell {w : World} {a b : Addr} {v : Value} (h : ∃ u, w.cell? b = some u) : ∃ u, (w.setCell a v).cell? b = some u := by
  obtain ⟨u, hu⟩ := h
  by_cases hab : a = b
  · subst hab; exact ⟨v, World.cell?_setCell_same w a v hu⟩
  · exact ⟨u, by rw [World.cell?_setCell_other w a b v hab]; exact hu⟩

theorem storeCells_run {P : Program} {a : Addr} : ∀ (vs : List Value) (i : Nat) (w : World), (∀ j, j < vs.length → (∃ u, w.cell? (a.add (i + j)) = some u) ∧ w.frozen? (a.add (i + j)) = false) → (∀ v ∈ vs, storable v) →
    (storeCells a vs i).run P w = .ok () (putAll w a vs i) := by
  intro vs
  induction vs with
  | nil => intro i w _ _; rfl
  | cons v r ih =>
    intro i w hc hs
    obtain ⟨⟨u, hu⟩, hf⟩ := hc 0 (by simp)
    rw [Nat.add_zero] at hu hf
    unfold storeCells
    rw [Sem.run_bind, store_run (hs v (by simp)) hu hf, Result.andThen_ok]
    refine ih (i + 1) _ (fun j hj => ?_) (fun v hv => hs v (by simp [hv]))
    have := hc (j + 1) (by simp; omega)
    rw [show i + 1 + j = i + (j + 1) by omega]
    exact ⟨cell_some_setCell this.1, by rw [World.frozen?_setCell]; exact this.2⟩

theorem add_zero' (a : Addr) : a.add 0 = a := rfl

theorem store_sound {P : Program} {t : TypeId} {x v : Value} {w : World} {K : World → Prop} (h : ptStore P t x v w K) : ∃ w', (Instr.storeAt t x v).run P w = .ok () w' ∧ K w' := by
  unfold ptStore at h
  split at h <;> first | exact h.elim | skip
  rename_i a
  split at h
  · split at h <;> first | exact h.elim | skip
    rename_i cs
    obtain ⟨i, hi, hsz, hc, hst, hk⟩ := withSz_some h
    refine ⟨_, ?_, hk⟩
    have hr := storeCells_run (P := P) (a := a) cs.toList 0 w (fun j hj => by rw [Nat.zero_add]; exact hc j (by simpa using hj)) (fun v hv => hst v (by simpa using hv))
    simp [Instr.storeAt, Instr.sureAddr, storeVar, run_sizeOf hi, Value.cells, hsz, hr]
  · obtain ⟨i, hi, h⟩ := withSz_some h
    split at h <;> first | exact h.elim | skip
    rename_i h1
    obtain ⟨hs, ⟨u, hu⟩, hf, hk⟩ := h
    refine ⟨_, ?_, hk⟩
    have hr : (storeCells a [v] 0).run P w = .ok () (w.setCell a v) := by
      have := storeCells_run (P := P) (a := a) [v] 0 w (fun j hj => by
        have : j = 0 := by simpa using hj
        subst this
        exact ⟨⟨u, hu⟩, hf⟩) (fun v' hv' => (by simpa using hv' : v' = v) ▸ hs)
      exact this
    simp [Instr.storeAt, Instr.sureAddr, storeVar, run_sizeOf hi, cells_storable hs, h1, hr]

/-! ### new memory -/

def zc (P : Program) (t : TypeId) : Array Value := match P.info? t with
  | some i => match i.zero with
    | some v => v.cells
    | none => #[]
  | none => #[]

def hasZero (P : Program) (t : TypeId) : Bool := match P.info? t with
  | some i => i.zero.isSome
  | none => false

theorem zero_run {P : Program} {t : TypeId} (h : hasZero P t = true) (w : World) : ∃ v, (zeroValue t).run P w = .ok v w ∧ v.cells = zc P t := by
  unfold hasZero at h
  split at h
  · rename_i i hi
    cases hz : i.zero with
    | none => rw [hz] at h; cases h
    | some v => exact ⟨v, by simp [zeroValue, run_typeInfo hi, hz], by simp [zc, hi, hz]⟩
  · cases h

def newAt (w : World) : Option Addr := some ⟨w.heap.size, 0, none⟩

def ptAlloc (P : Program) (t : TypeId) (w : World) (K : Value → World → Prop) : Prop :=
  if hasZero P t then K (.pointer (newAt w)) (w.alloc (.cells (zc P t) t)) else False

def ptBox (t : TypeId) (v : Value) (w : World) (K : Value → World → Prop) : Prop := K (.pointer (newAt w)) (w.alloc (.cells v.cells t))

theorem alloc_sound {P : Program} {t : TypeId} {w : World} {K : Value → World → Prop} (h : ptAlloc P t w K) : ∃ v w', (Instr.alloc t true (.tuple #[])).run P w = .ok v w' ∧ extA w w' ∧ K v w' := by
  unfold ptAlloc at h
  split at h <;> first | exact h.elim | skip
  rename_i hz
  obtain ⟨v, hv, hc⟩ := zero_run hz w
  refine ⟨_, _, ?_, extA_alloc _ _, h⟩
  simp [Instr.alloc, hv, newVar, newRow, hc, newAt]

theorem box_sound {P : Program} {t : TypeId} {v : Value} {w : World} {K : Value → World → Prop} (h : ptBox t v w K) : ∃ u w', (Instr.box t v).run P w = .ok u w' ∧ extA w w' ∧ K u w' :=
  ⟨.pointer (newAt w), w.alloc (.cells v.cells t), by simp [Instr.box, newVar, newRow, newAt], extA_alloc _ _, h⟩

/-- cells put into a row -/
def spl (l : List Value) (off : Nat) (cs : Array Value) : List Value := (cs.zipIdx.foldl (fun (a : Array Value) (x : Value × Nat) => a.setIfInBounds (off + x.2) x.1) ⟨l⟩).toList

def fillL (place : Nat → Option (Nat × Nat)) (total : Nat) : List Value → List (Nat × Value) → (List Value → Prop) → Prop
  | l, [], K => K l
  | l, (i, v) :: r, K =>
    match place i with
    | none => False
    | some (off, size) =>
      if off + size ≤ total then
        match v with
        | .agg cs => cs.size = size ∧ fillL place total (spl l off cs) r K
        | v => if size = 1 then fillL place total (l.set off v) r K else False
      else False

theorem foldl_size (off : Nat) (l : List (Value × Nat)) : ∀ (a : Array Value), (l.foldl (fun (a : Array Value) (x : Value × Nat) => a.setIfInBounds (off + x.2) x.1) a).size = a.size := by
  induction l with
  | nil => intro a; rfl
  | cons x r ih => intro a; rw [List.foldl_cons, ih]; simp

theorem spl_length (l : List Value) (off : Nat) (cs : Array Value) : (spl l off cs).length = l.length := by
  unfold spl
  rw [← Array.foldl_toList, Array.length_toList, foldl_size]
  simp

theorem fillL_sound (place : Nat → Option (Nat × Nat)) (total : Nat) {K : List Value → Prop} : ∀ (parts : List (Nat × Value)) (l : List Value), l.length = total → fillL place total l parts K → ∃ cells, Instr.fill place ⟨l⟩ parts = some cells ∧ K cells.toList := by
  intro parts
  induction parts with
  | nil => intro l _ h; exact ⟨⟨l⟩, rfl, h⟩
  | cons p r ih =>
    intro l hl h
    obtain ⟨i, v⟩ := p
    unfold fillL at h
    unfold Instr.fill
    split at h
    · exact h.elim
    · rename_i off size hp
      simp only [hp]
      split at h <;> first | exact h.elim | skip
      rename_i hle
      split at h
      · rename_i cs
        obtain ⟨hsz, h⟩ := h
        have hc : (Value.agg cs).cells = cs := rfl
        obtain ⟨cells, hf, hk⟩ := ih _ (by rw [spl_length]; exact hl) h
        refine ⟨cells, ?_, hk⟩
        rw [hc, if_neg (by simp [hsz]; omega)]
        rw [← hf]
        rfl
      · rename_i hna
        split at h <;> first | exact h.elim | skip
        rename_i h1
        have hc : v.cells = #[v] := by cases v <;> first | rfl | exact (hna _ rfl).elim
        obtain ⟨cells, hf, hk⟩ := ih _ (by simpa using hl) h
        refine ⟨cells, ?_, hk⟩
        rw [hc, if_neg (by simp; omega)]
        rw [← hf]
        simp

def structPlaces (P : Program) (fs : List Field) : Option (List (Nat × Nat)) :=
  match fs with
  | [] => some []
  | f :: r => match P.info? f.type, structPlaces P r with
    | some i, some l => some ((f.offset, i.size) :: l)
    | _, _ => none

def ptBuild (P : Program) (t : TypeId) (parts : List (Nat × Value)) (K : Value → Prop) : Prop :=
  if hasZero P t then
    match P.underlying t with
    | some (.struct fs) =>
      match structPlaces P fs.toList with
      | some pl => fillL (fun i => pl[i]?) (zc P t).size (zc P t).toList parts fun l => K (.agg ⟨l⟩)
      | none => False
    | some (.array _ e) => withSz P e fun sz => fillL (fun i => some (i * sz, sz)) (zc P t).size (zc P t).toList parts fun l => K (.agg ⟨l⟩)
    | _ => False
  else False

theorem places_run {P : Program} (fs : List Field) : ∀ {pl : List (Nat × Nat)}, structPlaces P fs = some pl → ∀ w, (fs.mapM (fun f => do pure (f.offset, ← sizeOf f.type) : Field → Sem (Nat × Nat))).run P w = .ok pl w := by
  induction fs with
  | nil => intro pl h w; simp [structPlaces] at h; subst h; simp
  | cons f r ih =>
    intro pl h w
    unfold structPlaces at h
    split at h
    · rename_i i l hi hl
      simp at h
      subst h
      rw [List.mapM_cons]
      simp [run_sizeOf hi]
      have := ih hl w
      simp at this
      simp [this]
    · cases h

theorem build_sound {P : Program} {t : TypeId} {parts : List (Nat × Value)} {K : Value → Prop} (h : ptBuild P t parts K) : ∃ v, PV P (Instr.build t ⟨parts⟩) v ∧ K v := by
  unfold ptBuild at h
  split at h <;> first | exact h.elim | skip
  rename_i hz
  split at h <;> first | exact h.elim | skip
  · rename_i fs hu
    split at h <;> first | exact h.elim | skip
    rename_i pl hpl
    obtain ⟨cells, hf, hk⟩ := fillL_sound _ _ parts _ (by simp) h
    refine ⟨_, fun w => ?_, hk⟩
    obtain ⟨v, hv, hc⟩ := zero_run hz w
    have hm : (fs.mapM (fun f => do pure (f.offset, ← sizeOf f.type) : Field → Sem (Nat × Nat))).run P w = .ok pl.toArray w := by
      obtain ⟨fs⟩ := fs
      rw [List.mapM_toArray, Sem.run_map, places_run fs hpl w]
      rfl
    simp only [Instr.build, Sem.run_bind, hv, Result.andThen_ok, run_underlying hu, hm, hc]
    have e1 : (fun (x : Nat) => pl.toArray[x]?) = fun (i : Nat) => pl[i]? := by funext x; simp
    rw [show ((⟨(zc P t).toList⟩ : Array Value)) = zc P t from rfl] at hf
    simp only [e1, hf]
    rfl
  · rename_i n e hu
    obtain ⟨i, hi, h⟩ := withSz_some h
    obtain ⟨cells, hf, hk⟩ := fillL_sound _ _ parts _ (by simp) h
    refine ⟨_, fun w => ?_, hk⟩
    obtain ⟨v, hv, hc⟩ := zero_run hz w
    simp [Instr.build, hv, run_underlying hu, run_sizeOf hi, hc, hf]

def repL (n : Nat) (l : List Value) : List Value := match n with
  | 0 => []
  | n + 1 => l ++ repL n l

theorem repL_length (n : Nat) (l : List Value) : (repL n l).length = n * l.length := by
  induction n with
  | zero => simp [repL]
  | succ n ih => simp [repL, ih, Nat.succ_mul]; omega

theorem repL_get (n : Nat) (l : List Value) (i : Nat) (h : i < n * l.length) : (repL n l)[i]? = l[i % l.length]? := by
  induction n generalizing i with
  | zero => omega
  | succ n ih =>
    unfold repL
    by_cases hi : i < l.length
    · rw [List.getElem?_append_left hi, Nat.mod_eq_of_lt hi]
    · rw [List.getElem?_append_right (by omega), ih _ (by rw [Nat.succ_mul] at h; omega)]
      congr 1
      rw [Nat.mod_eq_sub_mod (by omega : i ≥ l.length)]

theorem rep_eq (z : Array Value) (n m : Nat) (hm : m = n * z.size) : (Array.range m).map (fun i => z[i % z.size]!) = ⟨repL n z.toList⟩ := by
  subst hm
  apply Array.ext
  · simp [repL_length]
  · intro i h1 h2
    simp at h1
    have h3 := repL_get n z.toList i (by simpa using h1)
    have hz : i % z.size < z.size := Nat.mod_lt _ (by
      rcases Nat.eq_zero_or_pos z.size with h | h
      · rw [h] at h1; omega
      · exact h)
    simp only [Array.length_toList, Array.getElem?_toList] at h3
    rw [Array.getElem?_eq_getElem hz] at h3
    have h4 : (⟨repL n z.toList⟩ : Array Value)[i]? = some z[i % z.size] := by simpa using h3
    rw [Array.getElem?_eq_getElem h2] at h4
    simp only [Array.getElem_map, Array.getElem_range]
    rw [getElem!_pos z _ hz]
    exact (Option.some.inj h4).symm

theorem zeroCells_eq (z : Array Value) (n : Nat) : Builtin.zeroCells z n = ⟨repL n z.toList⟩ := rep_eq z n _ rfl

def ptBuildSlice (P : Program) (t : TypeId) (len : Nat) (parts : List (Nat × Value)) (w : World) (K : Value → World → Prop) : Prop :=
  match P.underlying t with
  | some (.slice e) =>
    if hasZero P e then withSz P e fun sz =>
      if len * sz ≤ 2 ^ 24 then
        if (zc P e).size = sz then
          fillL (fun i => some (i * sz, sz)) (len * sz) (repL len (zc P e).toList) parts fun l => K (.slice (newAt w) len len) (w.alloc (.cells ⟨l⟩ e))
        else False
      else False
    else False
  | _ => False

theorem buildSlice_sound {P : Program} {t : TypeId} {len : Nat} {parts : List (Nat × Value)} {w : World} {K : Value → World → Prop} (h : ptBuildSlice P t len parts w K) : ∃ v w', (Instr.buildSlice t len ⟨parts⟩).run P w = .ok v w' ∧ extA w w' ∧ K v w' := by
  unfold ptBuildSlice at h
  split at h <;> first | exact h.elim | skip
  rename_i e hu
  split at h <;> first | exact h.elim | skip
  rename_i hz
  obtain ⟨i, hi, h⟩ := withSz_some h
  split at h <;> first | exact h.elim | skip
  rename_i hle
  split at h <;> first | exact h.elim | skip
  rename_i hsz
  obtain ⟨v, hv, hc⟩ := zero_run hz w
  obtain ⟨cells, hf, hk⟩ := fillL_sound _ _ parts _ (by rw [repL_length]; simp [hsz]) h
  refine ⟨_, _, ?_, extA_alloc _ _, hk⟩
  have hle' : ¬ len * i.size > 2 ^ 24 := by omega
  unfold Instr.buildSlice
  simp only [Sem.run_bind, run_underlying hu, Result.andThen_ok, run_sizeOf hi, if_neg hle']
  by_cases h0 : len * i.size = 0
  · have e1 : repL len (zc P e).toList = [] := by
      apply List.eq_nil_of_length_eq_zero
      rw [repL_length]; simp [hsz, h0]
    have e2 : ∀ z : Array Value, (Array.range (len * i.size)).map (fun x => z[x % z.size]!) = #[] := fun z => by rw [h0]; simp
    rw [e1] at hf
    simp only [h0, if_true, Sem.run_bind, Sem.run_pure, Result.andThen_ok]
    have e3 : (Array.range 0).map (fun x => (#[] : Array Value)[x % (#[] : Array Value).size]!) = (⟨[]⟩ : Array Value) := by simp
    rw [e3, hf]
    simp [newRow, newAt]
  · have e2 : (Array.range (len * i.size)).map (fun x => (zc P e)[x % (zc P e).size]!) = ⟨repL len (zc P e).toList⟩ := rep_eq _ _ _ (by rw [hsz])
    simp only [h0, if_false, Sem.run_bind, hv, Result.andThen_ok, Sem.run_pure, hc, e2, hf]
    simp [newRow, newAt]

end Go.Proofs.Ythdmmmfgjmmelaa
