/- Numbers as bytes: numbers and rows taken. Own work. -/
import Derived.Test.YtkajimndclhgaaaBinA
namespace Go.Proofs.Ytkajimndclhgaaa
open Go Go.Proofs
set_option linter.unusedVariables false
set_option linter.unusedSimpArgs false
attribute [local irreducible] apK cpK mkK

theorem tkS_ok {xs : List Int} (hx : allB xs) (at' : Nat) (err n : Int) : allB (tkS xs at' err n).1 ∧ (tkS xs at' err n).1.length ≤ n.toNat ∧ (tkS xs at' err n).1.length ≤ xs.length ∧ (at' ≤ xs.length → (tkS xs at' err n).2.1 ≤ xs.length) := by
  unfold tkS
  split
  · refine ⟨fun x h => hx x (List.mem_of_mem_drop (List.mem_of_mem_take h)), by simp; omega, by simp; omega, fun _ => by simp only; omega⟩
  · exact ⟨fun x h => by simp at h, by simp, by simp, fun h => h⟩

theorem take_snoc {xs : List Int} {i : Nat} (h : i < xs.length) : xs.take (i + 1) = xs.take i ++ [xs.getD i 0] := by
  rw [List.take_succ_eq_append_getElem h]
  simp [List.getD, List.getElem?_eq_getElem h]
theorem allB_getD {xs : List Int} (hx : allB xs) {i : Nat} (h : i < xs.length) : 0 ≤ xs.getD i 0 ∧ xs.getD i 0 < 256 := by
  have : xs.getD i 0 = xs[i] := by simp [List.getD, List.getElem?_eq_getElem h]
  rw [this]; exact hx _ (List.getElem_mem h)

section
variable {F0 : List Nat} {w0 w : World} {ps rest : List As} {rb at' : Nat} {xs : List Int} {err : Int}

theorem bin_Reader_number.loop {t : Sl} {ys : List Int} {Q : Value → World → Prop} (h : St F0 w0 w ps) [Rdb F0 w0 t ps 1 (u8s ys)] (hy : allB ys) (hL : ys.length ≤ 1099511627776)
    (hk : ∀ w', St F0 w0 w' ps → Q (.int .i64 (IntKind.i64.wrap (be ys))) w') : bin_Reader_number.j3 0 t ((t.len : Nat) : Int) 0 Q w := by
  unfold bin_Reader_number.j3
  have hl := (h.rdb t).1
  rw [ivs_length] at hl
  refine loop2 (fun (i : Nat) (v i' : Int) w' => i' = i ∧ i ≤ ys.length ∧ v = IntKind.i64.wrap (be (ys.take i)) ∧ St F0 w0 w' ps) (fun i => ys.length - i) 0 ⟨rfl, by omega, rfl, h⟩ ?_
  clear h
  rintro i v i' w I μ ⟨rfl, hi, rfl, h⟩ hin
  unfold bin_Reader_number.b1
  refine br_d (fun g => ?_) (fun g => ?_)
  · have hiy : i < ys.length := by omega
    have hc := allB_getD hy hiy
    refine h.lx i rfl hiy ⟨by decide, lt_i ?_⟩
    refine lt_as (wrap_i64 (by omega) (by omega)) ?_
    refine lt_as (be_fold .i64 rfl 0 _ _ hc) ?_
    rw [← take_snoc hiy]
    refine lt_as (wrap_i64 (by omega) (by omega)) ?_
    exact ⟨⟨rfl, rfl⟩, hin (i + 1) _ _ _ ⟨by omega, by omega, rfl, h⟩ (by omega)⟩
  · have : i = ys.length := by omega
    subst this
    rw [List.take_length]
    exact hk w h

theorem bin_Reader_number.c {n : Nat} {K : Ending → World → Prop} (h : St F0 w0 w ps) [PkF brA rb ps (xs, at', err) rest]
    (hk : ∀ w', St F0 w0 w' (brA rb (xs, (tkS xs at' err n).2) :: rest) → K (.returned (.int .i64 (IntKind.i64.wrap (be (tkS xs at' err n).1)))) w') : Calls Try.prog 133 ⟨[.pointer (some ⟨rb, 0, none⟩), .int .i64 (n : Int)]⟩ w K := by
  refine ret_k (bin_Reader_number.ok _ _ _ _ ?_)
  unfold bin_Reader_number bin_Reader_number.j1
  obtain ⟨s, h1, h2, h3, h4, h5, h⟩ := brA_o (rb := rb) h
  refine bin_Reader_take.r h (by omega) h2 (by omega) (fun m w e1 e2 e3 g => ⟨⟨_, _, _⟩, rfl, ?_⟩) (fun w hn h => ⟨⟨none, 0, 0⟩, rfl, ?_⟩)
  · have e2 : n = m := by omega
    subst e2 e1
    have h := g
    have et : tkS xs at' 0 n = ((xs.drop at').take n, at' + n, 0) := by unfold tkS; rw [if_pos ⟨rfl, by omega, by omega⟩, Int.toNat_natCast]
    rw [et] at hk
    haveI := h.cutR s at' (at' + n) (s.cap - at') (ys := (xs.drop at').take n) (by omega) (by omega) h2 (by rw [show at' + n - at' = n by omega])
    refine bin_Reader_number.loop (t := ⟨cutA s.a s.cap at' 1, at' + n - at', s.cap - at'⟩) (ys := (xs.drop at').take n) h (fun x hx => h4 x (List.mem_of_mem_drop (List.mem_of_mem_take hx))) (by simp; omega) fun w h => ?_
    exact hk w (brA_i (by omega) h2 h4 h5 h)
  · have et : tkS xs at' err n = ([], at', if err = 0 then 3 else err) := by unfold tkS; rw [if_neg (by omega)]
    rw [et] at hk
    haveI := Rdb.nil (F0 := F0) (w0 := w0) (ps := blkA rb [.slice s.a s.len s.cap, .int .i64 (at' : Int), .int .i64 (if err = 0 then 3 else err)] :: ownA 1 s (u8s xs) :: rest) 0
    refine bin_Reader_number.loop (t := ⟨none, 0, 0⟩) (ys := []) h (fun x hx => by cases hx) (by simp) fun w h => ?_
    exact hk w (brA_i h1 h2 h4 h5 h)

theorem nuS_small {n : Nat} (hx : allB xs) (hn : n ≤ 4) : IntKind.i64.wrap (be (tkS xs at' err n).1) = (nuS xs at' err n).1 ∧ (nuS xs at' err n).2 = (tkS xs at' err n).2 := by
  have h := tkS_ok hx at' err n
  have h2 := be_lt8 h.1 (n := 4) (by omega)
  have h3 : (2 : Int) ^ (8 * 4) = 4294967296 := by decide
  rw [h3] at h2
  unfold nuS
  rw [if_neg (by omega), wrap_i64 (by omega) (by omega)]
  exact ⟨rfl, rfl⟩

theorem bin_Reader_U8.c {K : Ending → World → Prop} (h : St F0 w0 w ps) [PkF brA rb ps (xs, at', err) rest] (hx : allB xs)
    (hk : ∀ w', St F0 w0 w' (brA rb (xs, (nuS xs at' err 1).2) :: rest) → K (.returned (.int .i64 (nuS xs at' err 1).1)) w') : Calls Try.prog 84 ⟨[.pointer (some ⟨rb, 0, none⟩)]⟩ w K := by
  refine ret_k (bin_Reader_U8.ok _ _ _ ?_)
  unfold bin_Reader_U8
  obtain ⟨e1, e2⟩ := nuS_small (at' := at') (err := err) hx (show 1 ≤ 4 by decide)
  refine bin_Reader_number.c (n := 1) h fun w h => ⟨_, rfl, ?_⟩
  rw [← e2] at h
  rw [e1]
  exact hk w h

theorem bin_Reader_U16.c {K : Ending → World → Prop} (h : St F0 w0 w ps) [PkF brA rb ps (xs, at', err) rest] (hx : allB xs)
    (hk : ∀ w', St F0 w0 w' (brA rb (xs, (nuS xs at' err 2).2) :: rest) → K (.returned (.int .i64 (nuS xs at' err 2).1)) w') : Calls Try.prog 78 ⟨[.pointer (some ⟨rb, 0, none⟩)]⟩ w K := by
  refine ret_k (bin_Reader_U16.ok _ _ _ ?_)
  unfold bin_Reader_U16
  obtain ⟨e1, e2⟩ := nuS_small (at' := at') (err := err) hx (show 2 ≤ 4 by decide)
  refine bin_Reader_number.c (n := 2) h fun w h => ⟨_, rfl, ?_⟩
  rw [← e2] at h
  rw [e1]
  exact hk w h

theorem bin_Reader_U32.c {K : Ending → World → Prop} (h : St F0 w0 w ps) [PkF brA rb ps (xs, at', err) rest] (hx : allB xs)
    (hk : ∀ w', St F0 w0 w' (brA rb (xs, (nuS xs at' err 4).2) :: rest) → K (.returned (.int .i64 (nuS xs at' err 4).1)) w') : Calls Try.prog 79 ⟨[.pointer (some ⟨rb, 0, none⟩)]⟩ w K := by
  refine ret_k (bin_Reader_U32.ok _ _ _ ?_)
  unfold bin_Reader_U32
  obtain ⟨e1, e2⟩ := nuS_small (at' := at') (err := err) hx (show 4 ≤ 4 by decide)
  refine bin_Reader_number.c (n := 4) h fun w h => ⟨_, rfl, ?_⟩
  rw [← e2] at h
  rw [e1]
  exact hk w h

theorem bin_Reader_U64.c {K : Ending → World → Prop} (h : St F0 w0 w ps) [PkF brA rb ps (xs, at', err) rest] (hx : allB xs)
    (hk : ∀ w', St F0 w0 w' (brA rb (xs, (nuS xs at' err 8).2) :: rest) → K (.returned (.int .i64 (nuS xs at' err 8).1)) w') : Calls Try.prog 80 ⟨[.pointer (some ⟨rb, 0, none⟩)]⟩ w K := by
  refine ret_k (bin_Reader_U64.ok _ _ _ ?_)
  unfold bin_Reader_U64
  have hl0 : at' ≤ xs.length := by obtain ⟨s, h1, _⟩ := brA_o (rb := rb) h; exact h1
  refine bin_Reader_number.c (n := 8) h fun w h => ⟨_, rfl, ?_⟩
  have hd : ((8 : Nat) : Int) = 8 := rfl
  rw [hd] at h ⊢
  have hok := tkS_ok hx at' err 8
  have h2 := be_lt8 hok.1 (n := 8) (by omega)
  have h3 : (2 : Int) ^ (8 * 8) = 18446744073709551616 := by decide
  rw [h3] at h2
  have hw := wrap_i64_eq (be (tkS xs at' err 8).1)
  unfold nuS at hk
  rw [hd] at hk
  refine br_d (fun g => ?_) (fun g => ?_)
  · rw [if_pos (by omega)] at hk
    have hat : (tkS xs at' err 8).2 = (at' + 8, 0) := by
      unfold tkS at g ⊢
      split
      · rfl
      · rename_i hn
        rw [if_neg hn] at g
        exact absurd g (by show ¬ IntKind.i64.wrap (be []) < 0; decide)
    rw [hat] at h
    obtain ⟨s, h1, h2, h3, h4, h5, h⟩ := brA_o (rb := rb) h
    refine nz_i (h.fI ?_)
    refine lt_as (wrap_i64 (by omega) (by omega)) ?_
    refine nz_i (h.fst trivial fun w h => ?_)
    refine nz_i (h.fst trivial fun w h => ?_)
    rw [show ((at' + 8 : Nat) : Int) - 8 = (at' : Int) by omega] at h
    exact hk w (brA_i hl0 h2 h4 h5 h)
  · rw [if_neg (by omega)] at hk
    rw [wrap_i64 (by omega) (by omega)]
    exact hk w h

theorem bin_Reader_Bytes.c {n : Int} {K : Ending → World → Prop} (h : St F0 w0 w ps) [PkF brA rb ps (xs, at', err) rest]
    (hk : ∀ s' w', St F0 w0 w' (rdA 1 s' (u8s (tkS xs at' err n).1) :: brA rb (xs, (tkS xs at' err n).2) :: rest) → K (.returned (.slice s'.a s'.len s'.cap)) w') : Calls Try.prog 86 ⟨[.pointer (some ⟨rb, 0, none⟩), .int .i64 n]⟩ w K := by
  refine ret_k (bin_Reader_Bytes.ok _ _ _ _ ?_)
  unfold bin_Reader_Bytes
  obtain ⟨s, h1, h2, h3, h4, h5, h⟩ := brA_o (rb := rb) h
  refine bin_Reader_take.r h (by omega) h2 (by omega) (fun m w e1 e2 e3 g => ⟨⟨_, _, _⟩, rfl, ?_⟩) (fun w hn h => ⟨⟨none, 0, 0⟩, rfl, ?_⟩)
  · subst e2 e1
    have h := g
    have et : tkS xs at' 0 m = ((xs.drop at').take m, at' + m, 0) := by unfold tkS; rw [if_pos ⟨rfl, by omega, by omega⟩, Int.toNat_natCast]
    rw [et] at hk
    have hr := (h.cutR s at' (at' + m) (s.cap - at') (ys := (xs.drop at').take m) (by omega) (by omega) h2 (by rw [show at' + m - at' = m by omega])).rd h
    refine slices_Clone_byte.c h hr (by simp; omega) fun s1 w h => ⟨s1, rfl, ?_⟩
    refine slices_Clip_byte.c h.ro (h.cap (by decide)) fun s2 _ _ h => ⟨s2, rfl, ?_⟩
    exact hk s2 w (h.tail fun _ _ _ h => brA_i (by omega) h2 h4 h5 h)
  · have et : tkS xs at' err n = ([], at', if err = 0 then 3 else err) := by unfold tkS; rw [if_neg (by omega)]
    rw [et] at hk
    refine slices_Clone_byte.c (s := ⟨none, 0, 0⟩) (xs := []) h ((Rdb.nil 0).rd h) (by simp) fun s1 w h => ⟨s1, rfl, ?_⟩
    refine slices_Clip_byte.c h.ro (h.cap (by decide)) fun s2 _ _ h => ⟨s2, rfl, ?_⟩
    exact hk s2 w (h.tail fun _ _ _ h => brA_i h1 h2 h4 h5 h)

/-! ### the document's reader -/

/-- the document's reader at rb: its row, the place, the fault -/
def brR (rb : Nat) (x : Sl × Nat × Int) : As := blkA rb [.slice x.1.a x.1.len x.1.cap, .int .i64 (x.2.1 : Int), .int .i64 x.2.2]

theorem brR_o {s : Sl} (h : St F0 w0 w ps) [PkF brR rb ps (s, at', err) rest] : St F0 w0 w (blkA rb [.slice s.a s.len s.cap, .int .i64 (at' : Int), .int .i64 err] :: rest) := h.toF brR rb

theorem troveref1_Reader_Left.c {s : Sl} {K : Ending → World → Prop} (h : St F0 w0 w ps) [PkF brR rb ps (s, at', err) rest] (ha : at' ≤ s.len) (hL : s.len ≤ 1099511627776)
    (hk : ∀ w', St F0 w0 w' (brR rb (s, at', err) :: rest) → K (.returned (.int .i64 (if err = 0 then (s.len : Int) - at' else 0))) w') : Calls Try.prog 88 ⟨[.pointer (some ⟨rb, 0, none⟩)]⟩ w K := by
  refine ret_k (troveref1_Reader_Left.ok _ _ _ ?_)
  unfold troveref1_Reader_Left
  have h := brR_o (rb := rb) h
  refine nz_i (h.fI (br_b (fun g => ?_) (fun g => ?_)))
  · rw [if_neg (by simpa using g)] at hk
    exact hk w h
  · rw [if_pos (by simpa using g)] at hk
    refine h.drewK fun w h => ?_
    refine nz_i (h.fL (nz_i (h.fI ?_)))
    refine lt_as (wrap_i64 (by simp only; omega) (by simp only; omega)) ?_
    exact hk w h

theorem troveref1_Reader_Bytes.c {s : Sl} {n : Int} {K : Ending → World → Prop} (h : St F0 w0 w ps) [PkF brR rb ps (s, at', err) rest] [Rdb F0 w0 s rest 1 (u8s xs)] (ha : at' ≤ xs.length) (hL : xs.length ≤ 1099511627776) (hc : s.len ≤ s.cap)
    (hk : ∀ s' w', St F0 w0 w' (ownA 1 s' (u8s (tkS xs at' err n).1) :: brR rb (s, (tkS xs at' err n).2) :: rest) → K (.returned (.slice s'.a s'.len s'.cap)) w') : Calls Try.prog 87 ⟨[.pointer (some ⟨rb, 0, none⟩), .int .i64 n]⟩ w K := by
  refine ret_k (troveref1_Reader_Bytes.ok _ _ _ _ ?_)
  unfold troveref1_Reader_Bytes
  have h := brR_o (rb := rb) h
  have hl := (h.rdb s).1
  rw [ivs_length] at hl
  have bad : ∀ (e : Int) w', e = (if err = 0 then 3 else err) → ¬(err = 0 ∧ 0 ≤ n ∧ n ≤ (xs.length : Int) - at') → St F0 w0 w' (blkA rb [.slice s.a s.len s.cap, .int .i64 (at' : Int), .int .i64 e] :: rest) → K (.returned (.slice none 0 0)) w' := by
    intro e w e1 hn h
    subst e1
    have et : tkS xs at' err n = ([], at', if err = 0 then 3 else err) := by unfold tkS; rw [if_neg (by omega)]
    rw [et] at hk
    exact hk ⟨none, 0, 0⟩ w (h.nil 1)
  refine nz_i (h.fI (br_b (fun g => ?_) (fun g => ?_)))
  · have g : err ≠ 0 := by simpa using g
    exact bad err w (by rw [if_neg g]) (fun e => g e.1) h
  · have g : err = 0 := by simpa using g
    subst g
    refine h.drewK fun w h => ?_
    refine br_d (fun g => ?_) (fun g => ?_)
    · refine nz_i (h.fst trivial fun w h => ?_)
      exact bad 3 w rfl (by omega) h
    refine nz_i (h.fL (nz_i (h.fI ?_)))
    refine lt_as (wrap_i64 (by simp only; omega) (by simp only; omega)) ?_
    refine br_d (fun g2 => ?_) (fun g2 => ?_)
    · simp only at g2
      refine nz_i (h.fst trivial fun w h => ?_)
      exact bad 3 w rfl (by omega) h
    · simp only at g2
      obtain ⟨m, rfl⟩ : ∃ m : Nat, n = m := ⟨n.toNat, by omega⟩
      refine h.drewK fun w h => ?_
      refine nz_i (h.fL (nz_i (h.fI (nz_i (h.fI ?_)))))
      refine lt_as (wrap_i64 (by omega) (by omega)) ?_
      refine bd_i (n := at' + m) (by omega) (by simp only; omega) ?_
      refine bd_i (n := at') (by omega) (by omega) (lt_i ?_)
      have et : tkS xs at' 0 m = ((xs.drop at').take m, at' + m, 0) := by unfold tkS; rw [if_pos ⟨rfl, by omega, by omega⟩, Int.toNat_natCast]
      rw [et] at hk
      haveI := h.cutR s at' (at' + m) (s.cap - at') (ys := (xs.drop at').take m) (by omega) (by omega) hc (by rw [show at' + m - at' = m by omega])
      refine h.clone (k := .u8) (s2 := ⟨cutA s.a s.cap at' 1, at' + m - at', s.cap - at'⟩) (ys := (xs.drop at').take m) (by simp; omega) fun s1 w h => ?_
      refine nz_i (h.fI ?_)
      refine lt_as (wrap_i64 (by omega) (by omega)) ?_
      refine nz_i (h.fst trivial fun w h => ?_)
      have h := h.at1
      rw [← Int.natCast_add] at h
      exact hk s1 w h

theorem troveref1_Reader_Number.c {s : Sl} {n : Nat} {K : Ending → World → Prop} (hx : allB xs) (hn : n ≤ 8) (h : St F0 w0 w ps) [PkF brR rb ps (s, at', err) rest] [Rdb F0 w0 s rest 1 (u8s xs)] (ha : at' ≤ xs.length) (hL : xs.length ≤ 1099511627776) (hc : s.len ≤ s.cap)
    (hk : ∀ w', St F0 w0 w' (brR rb (s, (nuS xs at' err n).2) :: rest) → K (.returned (.int .i64 (nuS xs at' err n).1)) w') : Calls Try.prog 85 ⟨[.pointer (some ⟨rb, 0, none⟩), .int .i64 (n : Int)]⟩ w K := by
  refine ret_k (troveref1_Reader_Number.ok _ _ _ _ ?_)
  unfold troveref1_Reader_Number troveref1_Reader_Number.j1
  have h := brR_o (rb := rb) h
  have h : St F0 w0 w (brR rb (s, at', err) :: rest) := h
  have hh : St F0 w0 w (blkA rb [.slice s.a s.len s.cap, .int .i64 (at' : Int), .int .i64 err] :: rest) := h
  refine nz_i (hh.fI ?_)
  refine troveref1_Reader_Bytes.c (xs := xs) (n := n) h ha hL hc fun s1 w h => ⟨s1, rfl, ?_⟩
  have hok := tkS_ok hx at' err n
  have hb := be_lt8 hok.1 (n := 8) (by omega)
  have h3 : (2 : Int) ^ (8 * 8) = 18446744073709551616 := by decide
  rw [h3] at hb
  unfold nuS at hk
  generalize tkS xs at' err n = t at h hok hb hk
  obtain ⟨ys, at2, err2⟩ := t
  simp only at h hok hb hk
  unfold troveref1_Reader_Number.j2 troveref1_Reader_Number.j4
  have hl := h.len
  rw [ivs_length] at hl
  refine loop2 (fun (i : Nat) (v i' : Int) w' => i' = i ∧ i ≤ ys.length ∧ v = IntKind.u64.wrap (be (ys.take i)) ∧ St F0 w0 w' (ownA 1 s1 (u8s ys) :: brR rb (s, at2, err2) :: rest)) (fun i => ys.length - i) 0 ⟨rfl, by omega, rfl, h⟩ ?_
  clear h
  rintro i v i' w I μ ⟨rfl, hi, rfl, h⟩ hin
  unfold troveref1_Reader_Number.b1
  refine br_d (fun g => ?_) (fun g => ?_)
  · have hiy : i < ys.length := by omega
    have hcc := allB_getD hok.1 hiy
    refine ⟨by decide, lt_i ?_⟩
    refine h.lx i rfl hiy ?_
    refine lt_as (show IntKind.u64.wrap (ys.getD i 0) = ys.getD i 0 by rw [wrap_u64]; omega) ?_
    refine lt_as (be_fold .u64 rfl 0 _ _ hcc) ?_
    rw [← take_snoc hiy]
    refine lt_as (wrap_i64 (by omega) (by omega)) ?_
    exact ⟨⟨rfl, rfl, rfl⟩, hin (i + 1) _ _ _ ⟨by omega, by omega, rfl, h⟩ (by omega)⟩
  · have : i = ys.length := by omega
    subst this
    rw [List.take_length]
    have ew : IntKind.u64.wrap (be ys) = be ys := by rw [wrap_u64]; omega
    rw [ew]
    unfold troveref1_Reader_Number.j3
    have h : St F0 w0 w (blkA rb [.slice s.a s.len s.cap, .int .i64 (at2 : Int), .int .i64 err2] :: rest) := h.drop
    refine br_d (fun g => ?_) (fun g => ?_)
    · rw [if_pos (by omega)] at hk
      refine nz_i (h.fst trivial fun w h => ?_)
      refine nz_i (h.fst trivial fun w h => ?_)
      exact hk w h
    · rw [if_neg (by omega)] at hk
      refine lt_as (wrap_i64 (by omega) (by omega)) ?_
      exact hk w h

end

end Go.Proofs.Ytkajimndclhgaaa
